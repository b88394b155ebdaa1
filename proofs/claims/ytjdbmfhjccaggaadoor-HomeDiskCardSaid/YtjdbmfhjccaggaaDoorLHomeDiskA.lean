/- The functions at hand as plain typed functions, each with the proof that it is what the abstract machine's code does. -/
import Derived.Test.YtjdbmfhjccaggaaDoorB9t
import Derived.KernelRfl
namespace Go.Proofs.YtjdbmfhjccaggaaDoor
open Go
set_option linter.unusedVariables false
set_option maxRecDepth 100000
def tab0 : Tab := { g := 1, k := .u32, zs := [0, 498536548, 997073096, 651767980, 1994146192, 1802195444, 1303535960, 1342533948, 3988292384, 4027552580, 3604390888, 3412177804, 2607071920, 2262029012, 2685067896, 3183342108] }
def tab1 : Tab := { g := 0, k := .i64, zs := [1, 1, 1, 1, 1, 1, 1, 3, 8, 8] }
def tabsL : List Tab := [tab0, tab1]
def k_w8_awake : Nat := 4
def k_w8_small : Nat := 7
def k_r8_Same : Nat := 10
def k_w8_apart : Nat := 11
def k_sector_Disk_Len : Nat := 14
def k_octet_Join : Nat := 18
def k_sector_Load : Nat := 19
def k_r8_May : Nat := 20
def k_r4_Load : Nat := 23
def k_sector_Disk_Image : Nat := 25
def k_sector_Disk_Flush : Nat := 32
def k_sector_Disk_Crash : Nat := 34
def k_r4_Disk_Crash : Nat := 35
def k_home_block : Nat := 36
def k_octet_Pad : Nat := 42
def k_r8_number : Nat := 43
def k_slices_Clone_byte_byte : Nat := 45
def k_sector_Disk_asked : Nat := 50
def k_r4_Disk_Len : Nat := 51
def k_octet_may : Nat := 52
def k_sum_push : Nat := 53
def k_slices_Backward_sector_waiting_sector_waiting_1 : Nat := 57
def k_super_within : Nat := 58
def k_r2_Push : Nat := 59
def k_sector_Disk_Waiting : Nat := 24
def k_sector_Disk_Write : Nat := 30
def k_r4_Disk_Write : Nat := 31
def k_r4_Disk_Flush : Nat := 33
def k_octet_Put : Nat := 37
def k_sum_Of : Nat := 38
def k_r8_fits : Nat := 46
def k_r4_Disk_Read : Nat := 47
def k_slices_Backward_sector_waiting_sector_waiting : Nat := 54
def k_super_Config : Nat := 55
def k_r2_Of : Nat := 56
def k_w8_desk_same : Nat := 8
def k_home_Encode : Nat := 12
def k_home_Decode : Nat := 13
def k_sector_Disk_Read : Nat := 40
def k_super_Check : Nat := 41
def k_r8_Summed : Nat := 44
def k_home_fits : Nat := 49
def k_super_Encode : Nat := 17
def k_r8_Super : Nat := 21
def k_r8_Encode : Nat := 22
def k_r8_Save : Nat := 26
def k_home_has : Nat := 39
def k_r8_Decode : Nat := 48
def k_home_New : Nat := 5
def k_r8_New : Nat := 6
def k_home_Save : Nat := 15
def k_home_Load : Nat := 16
def k_r8_Load : Nat := 27
def k_home_All : Nat := 28
def k_r8_All : Nat := 29
def k_w8_desk_plays : Nat := 9
def k_w8_HomeDisk : Nat := 3
def f_w8_awake (n : Nat) (h : Heap) : Option ((Bool × Unit) × Heap) := yesTB tabsL h
noncomputable def s_w8_awake (n : Nat) : Sf1 := mkSf [] [(.tmp 0, .bool)] fun a h => f_w8_awake n h
def PrimT_w8_awake (T : Nat → Option AFun) : Prop := T k_w8_awake = some ⟨[], .skip, some (yesT tabsL)⟩
theorem primOk_w8_awake {T : Nat → Option AFun} (hT : PrimT_w8_awake T) (n : Nat) : Sf1Ok T k_w8_awake (s_w8_awake n) := yesT_sf hT
/- wicket/wicketlaw08.small -/
instance (n : Nat) : OfNat Operand n := ⟨.tmp n⟩
def rg (d : Nat) (o : AOp) (t : Ty) : AOper × Ty := (⟨some d, o, none⟩, t)
def rq (d : Nat) (o : AOp) (g : Nat) (t : Ty) : AOper × Ty := (⟨some d, o, some (g, false)⟩, t)
def rp (d : Nat) (o : AOp) (g : Nat) (t : Ty) : AOper × Ty := (⟨some d, o, some (g, true)⟩, t)
def rn (o : AOp) (t : Ty) : AOper × Ty := (⟨none, o, none⟩, t)
def Ty.i : Ty := .int .i64
def Ty.u : Ty := .int .u8
def c2_w8_small : C2 := .seq (.reg [rg 0 (.alloc (List.replicate 5 (.int .i64 0))) .ptr]) <|
 .seq (.reg [rg 1 (.build (List.replicate 5 (.int .i64 0)) [(0, 1, (.const (.int .i64 2))), (1, 1, (.const (.int .i64 3))), (2, 1, (.const (.int .i64 1))), (3, 1, (.const (.int .i64 1))), (4, 1, (.const (.int .i64 1)))]) .any, rn (.store 5 0 1) .any]) <|
 .ret
noncomputable def sf_w8_small (n : Nat) : Sf := sfOf []
noncomputable def it_w8_small (n : Nat) : It := itOf []
def f_w8_small (n : Nat)  (h : Heap) : Option ((Value × Unit) × Heap) :=
  bnd ((Heap.new h (.cells (List.replicate 5 (.int .i64 0)) false 0))) fun h0 =>
  (fillL (List.replicate 5 (.int .i64 0)) [(0, 1, (.int .i64 2)), (1, 1, (.int .i64 3)), (2, 1, (.int .i64 1)), (3, 1, (.int .i64 1)), (4, 1, (.int .i64 1))]).bind fun cs1 =>
  (stB 5 (.agg ⟨cs1⟩) h0 (some (nwA h))).bind fun h2 =>
  (ldA 5 h2 (some (nwA h))).bind fun cs3 =>
  some (((.agg ⟨cs3⟩), ()), h2)
def rs_w8_small : Rs := [(.cell true 5 0, .any)]
def ps_w8_small : List Ty := []
theorem e_w8_small (n : Nat)  (h : Heap) : f_w8_small n h = fB (sf_w8_small n) (it_w8_small n) n c2_w8_small rs_w8_small ps_w8_small () h := by kernel_rfl
noncomputable def s_w8_small (n : Nat) : Sf1 := mkSf ps_w8_small rs_w8_small fun a h => f_w8_small n h
/- wicket/wicketref08.Same -/
def c2_r8_Same : C2 := .seq (.reg [rg 4 (.move (.const (.bool false))) .bool]) <|
 .seq (.seq (.reg [rg 6 (.move 0) .any, rg 7 (.lenS 6) .i, rg 8 (.move 1) .any, rg 9 (.lenS 8) .i, rg 10 (.bin .neq 7 9) .bool]) <|
 .cond 10 (.seq (.reg [rg 4 (.move (.const (.bool false))) .bool]) <|
 .ret) (.skip)) <|
 .seq (.seq (.reg [rg 5 (.move (.const (.int .i64 0))) .i]) <|
 .block 0 <|
 .loop [(5, .i)] <|
 .seq (.seq (.reg [rg 11 (.move 5) .i, rg 12 (.move 0) .any, rg 13 (.lenS 12) .i, rg 14 (.bin .lss 11 13) .bool]) <|
 .cond 14 (.skip) (.exit 0)) <|
 .seq (.block 1 <|
 .seq (.regd [(⟨0, [], false, ⟨(some 17), .move 0, none⟩⟩, .any), (⟨1, [], false, ⟨(some 18), .move 5, none⟩⟩, (.int .i64)), (⟨2, [0, 1], false, ⟨(some 19), .idxSlice 32 17 18, none⟩⟩, .ptr), (⟨3, [2, 0, 1], false, ⟨(some 20), .load true 32 19, none⟩⟩, .any), (⟨4, [], false, ⟨(some 21), .move 1, none⟩⟩, .any), (⟨5, [], false, ⟨(some 22), .move 5, none⟩⟩, (.int .i64)), (⟨6, [4, 5], false, ⟨(some 23), .idxSlice 32 21 22, none⟩⟩, .ptr), (⟨7, [6, 4, 5], false, ⟨(some 24), .load true 32 23, none⟩⟩, .any), (⟨8, [3, 7, 2, 0, 1, 6, 4, 5], false, ⟨(some 25), .eqv true (.agg (List.replicate 32 false)) 20 24, none⟩⟩, .bool)]) <|
 .cond 25 (.seq (.reg [rg 4 (.move (.const (.bool false))) .bool]) <|
 .ret) (.skip)) <|
 .reg [rg 15 (.move 5) .i, rg 16 (.bin .add 15 (.const (.int .i64 1))) .i, rg 5 (.move 16) .i]) <|
 .seq (.reg [rg 4 (.move (.const (.bool true))) .bool]) <|
 .ret
def f_r8_Same_L10 (n : Nat) (u1 : Value) (u0 : Value) (v2 : Int) (h3 : Heap) : Option (((Int × Unit) × Heap) ⊕ ((Bool × Unit) × Heap)) :=
  (lenB u0).bind fun n4 =>
  bif (decide (v2 < (n4 : Int))) then
    ((ixB 32 u0 v2).bind fun q5 =>
    (ldA 32 h3 (some q5)).bind fun cs6 =>
    (ixB 32 u1 v2).bind fun q7 =>
    (ldA 32 h3 (some q7)).bind fun cs8 =>
    (eqVals h3 (.agg (List.replicate 32 false)) (.agg ⟨cs6⟩) (.agg ⟨cs8⟩)).bind fun b9 =>
    bif (!b9) then
      (some (.inr ((false, ()), h3)))
    else
      (some (.inl (((IntKind.i64.wrap (v2 + 1)), ()), h3))))
  else
    (some (.inr ((true, ()), h3)))
noncomputable def sf_r8_Same (n : Nat) : Sf := sfOf []
noncomputable def it_r8_Same (n : Nat) : It := itOf []
def f_r8_Same (n : Nat) (u0 : Value) (u1 : Value) (h : Heap) : Option ((Bool × Unit) × Heap) :=
  (lenB u0).bind fun n0 =>
  (lenB u1).bind fun n1 =>
  bif (!decide ((n0 : Int) = (n1 : Int))) then
    (some ((false, ()), h))
  else
    (loopT (fun a => f_r8_Same_L10 n u1 u0 a.1.1 a.2) n ((0, ()), h))
def rs_r8_Same : Rs := [(.tmp 4, .bool)]
def ps_r8_Same : List Ty := [.any, .any]
theorem e_r8_Same (n : Nat) (u0 : Value) (u1 : Value) (h : Heap) : f_r8_Same n u0 u1 h = fB (sf_r8_Same n) (it_r8_Same n) n c2_r8_Same rs_r8_Same ps_r8_Same (u0, (u1, ())) h := by kernel_rfl
noncomputable def s_r8_Same (n : Nat) : Sf1 := mkSf ps_r8_Same rs_r8_Same fun a h => f_r8_Same n a.1 a.2.1 h
/- wicket/wicketlaw08.apart -/
def c2_w8_apart : C2 := .seq (.reg [rn .clrS .any]) <|
 .seq (.reg [rg 2 (.move (.const (.bool false))) .bool]) <|
 .seq (.cutn [] <|
 .seq (.reg [rg 3 (.move (.const (.int .i64 0))) .i]) <|
 .block 0 <|
 .loop [(3, .i)] <|
 .seq (.seq (.reg [rg 14 (.move 3) .i, rg 15 (.move 0) .any, rg 16 (.lenS 15) .i, rg 17 (.bin .lss 14 16) .bool]) <|
 .cond 17 (.skip) (.exit 0)) <|
 .seq (.cutn [] <|
 .block 1 <|
 .seq (.reg [rg 4 (.move (.const (.int .i64 0))) .i]) <|
 .block 2 <|
 .loop [(4, .i)] <|
 .seq (.seq (.reg [rg 20 (.move 4) .i, rg 21 (.move 0) .any, rg 22 (.move 3) .i, rg 23 (.idxSlice 1 21 22) .ptr, rg 24 (.loadS false 1 23) .any, rg 25 (.lenS 24) .i, rg 26 (.bin .lss 20 25) .bool]) <|
 .cond 26 (.skip) (.exit 2)) <|
 .seq (.block 3 <|
 .reg [rg 29 (.move 0) .any, rg 30 (.move 3) .i, rg 31 (.idxSlice 1 29 30) .ptr, rg 32 (.loadS false 1 31) .any, rg 33 (.move 4) .i, rg 34 (.move 3) .i, rg 35 (.bin .add 34 (.const (.int .i64 1))) .i, rg 36 (.conv .u8 35) .u, rg 37 (.build (List.replicate 32 (.int .u8 0)) [(0, 1, 36)]) .any, rg 38 (.idxSlice 32 32 33) .ptr, rn (.store 32 38 37) .any]) <|
 .reg [rg 27 (.move 4) .i, rg 28 (.bin .add 27 (.const (.int .i64 1))) .i, rg 4 (.move 28) .i]) <|
 .reg [rg 18 (.move 3) .i, rg 19 (.bin .add 18 (.const (.int .i64 1))) .i, rg 3 (.move 19) .i]) <|
 .seq (.reg [rg 5 (.move (.const (.slice none 0 0))) .any]) <|
 .seq (.cutn [(5, .any)] <|
 .seq (.reg [rg 6 (.move (.const (.int .i64 0))) .i]) <|
 .block 4 <|
 .loop [(5, .any), (6, .i)] <|
 .seq (.seq (.reg [rg 39 (.move 6) .i, rg 40 (.move 0) .any, rg 41 (.lenS 40) .i, rg 42 (.bin .lss 39 41) .bool]) <|
 .cond 42 (.skip) (.exit 4)) <|
 .seq (.cutn [(5, .any)] <|
 .block 5 <|
 .seq (.reg [rg 45 (.move 0) .any, rg 46 (.move 6) .i, rg 47 (.idxSlice 1 45 46) .ptr, rg 48 (.loadS false 1 47) .any, rg 7 (.move 48) .any]) <|
 .seq (.cutn [(5, .any), (7, .any)] <|
 .seq (.reg [rg 8 (.move (.const (.int .i64 0))) .i]) <|
 .block 6 <|
 .loop [(5, .any), (7, .any), (8, .i)] <|
 .seq (.seq (.reg [rg 49 (.move 8) .i, rg 50 (.bin .lss 49 (.const (.int .i64 70))) .bool]) <|
 .cond 50 (.skip) (.exit 6)) <|
 .seq (.cutn [(5, .any), (7, .any)] <|
 .block 7 <|
 .seq (.reg [rg 53 (.move 7) .any, rg 54 (.move 6) .i, rg 55 (.bin .add 54 (.const (.int .i64 1))) .i, rg 56 (.conv .u8 55) .u, rg 57 (.build (List.replicate 32 (.int .u8 0)) [(0, 1, 56), (1, 1, (.const (.int .u8 1)))]) .any, rg 58 (.buildSlice 1 32 (List.replicate 32 (.int .u8 0)) [(0, 32, 57)]) .any, rg 59 (.appendS 32 32 53 58) .any, rg 7 (.move 59) .any]) <|
 .seq (.reg [rg 60 (.move 8) .i, rg 61 (.bin .lss 60 (.const (.int .i64 16))) .bool]) <|
 .cond 61 (.reg [rg 62 (.move 5) .any, rg 63 (.move 7) .any, rg 64 (.buildSlice 1 1 [(.slice none 0 0)] [(0, 1, 63)]) .any, rg 65 (.appendS 24 1 62 64) .any, rg 5 (.move 65) .any]) (.skip)) <|
 .reg [rg 51 (.move 8) .i, rg 52 (.bin .add 51 (.const (.int .i64 1))) .i, rg 8 (.move 52) .i]) <|
 .reg [rg 66 (.move 5) .any, rg 67 (.move 7) .any, rg 68 (.buildSlice 1 1 [(.slice none 0 0)] [(0, 1, 67)]) .any, rg 69 (.appendS 24 1 66 68) .any, rg 5 (.move 69) .any]) <|
 .reg [rg 43 (.move 6) .i, rg 44 (.bin .add 43 (.const (.int .i64 1))) .i, rg 6 (.move 44) .i]) <|
 .seq (.seq (.reg [rg 9 (.move (.const (.int .i64 0))) .i]) <|
 .block 8 <|
 .loop [(9, .i)] <|
 .seq (.seq (.reg [rg 70 (.move 9) .i, rg 71 (.move 0) .any, rg 72 (.lenS 71) .i, rg 73 (.bin .lss 70 72) .bool]) <|
 .cond 73 (.skip) (.exit 8)) <|
 .seq (.cut [] <|
 .block 9 <|
 .seq (.cut [] <|
 .seq (.reg [rg 10 (.move (.const (.int .i64 0))) .i]) <|
 .block 10 <|
 .loop [(10, .i)] <|
 .seq (.seq (.reg [rg 76 (.move 10) .i, rg 77 (.move 0) .any, rg 78 (.move 9) .i, rg 79 (.idxSlice 1 77 78) .ptr, rg 80 (.loadS false 1 79) .any, rg 81 (.lenS 80) .i, rg 82 (.bin .lss 76 81) .bool]) <|
 .cond 82 (.skip) (.exit 10)) <|
 .seq (.block 11 <|
 .seq (.reg [rg 85 (.move 0) .any, rg 86 (.move 9) .i, rg 87 (.idxSlice 1 85 86) .ptr, rg 88 (.loadS false 1 87) .any, rg 89 (.move 10) .i, rg 90 (.idxSlice 32 88 89) .ptr, rg 91 (.loadS true 32 90) .any, rg 92 (.move 9) .i, rg 93 (.bin .add 92 (.const (.int .i64 1))) .i, rg 94 (.conv .u8 93) .u, rg 95 (.build (List.replicate 32 (.int .u8 0)) [(0, 1, 94)]) .any, rg 96 (.eqv true (.agg (List.replicate 32 false)) 91 95) .bool]) <|
 .cond 96 (.seq (.reg [rg 2 (.move (.const (.bool false))) .bool]) <|
 .ret) (.skip)) <|
 .reg [rg 83 (.move 10) .i, rg 84 (.bin .add 83 (.const (.int .i64 1))) .i, rg 10 (.move 84) .i]) <|
 .seq (.reg [rg 11 (.move (.const (.int .i64 0))) .i]) <|
 .block 12 <|
 .loop [(11, .i)] <|
 .seq (.seq (.reg [rg 97 (.move 11) .i, rg 98 (.bin .lss 97 (.const (.int .i64 17))) .bool]) <|
 .cond 98 (.skip) (.exit 12)) <|
 .seq (.cut [] <|
 .block 13 <|
 .seq (.reg [rg 101 (.move 5) .any, rg 102 (.move 9) .i, rg 103 (.bin .mul (.const (.int .i64 17)) 102) .i, rg 104 (.move 11) .i, rg 105 (.bin .add 103 104) .i, rg 106 (.idxSlice 1 101 105) .ptr, rg 107 (.loadS false 1 106) .any, rg 12 (.move 107) .any]) <|
 .seq (.reg [rg 108 (.move 0) .any, rg 109 (.move 9) .i, rg 110 (.idxSlice 1 108 109) .ptr, rg 111 (.loadS false 1 110) .any, rg 112 (.lenS 111) .i, rg 13 (.move 112) .i]) <|
 .block 14 <|
 .loop [(13, .i)] <|
 .seq (.seq (.reg [rg 113 (.move 13) .i, rg 114 (.move 12) .any, rg 115 (.lenS 114) .i, rg 116 (.bin .lss 113 115) .bool]) <|
 .cond 116 (.skip) (.exit 14)) <|
 .seq (.block 15 <|
 .seq (.reg [rg 119 (.move 12) .any, rg 120 (.move 13) .i, rg 121 (.idxSlice 32 119 120) .ptr, rg 122 (.loadS true 32 121) .any, rg 123 (.move 9) .i, rg 124 (.bin .add 123 (.const (.int .i64 1))) .i, rg 125 (.conv .u8 124) .u, rg 126 (.build (List.replicate 32 (.int .u8 0)) [(0, 1, 125), (1, 1, (.const (.int .u8 1)))]) .any, rg 127 (.eqv true (.agg (List.replicate 32 false)) 122 126) .bool]) <|
 .cond 127 (.seq (.reg [rg 2 (.move (.const (.bool false))) .bool]) <|
 .ret) (.skip)) <|
 .reg [rg 117 (.move 13) .i, rg 118 (.bin .add 117 (.const (.int .i64 1))) .i, rg 13 (.move 118) .i]) <|
 .reg [rg 99 (.move 11) .i, rg 100 (.bin .add 99 (.const (.int .i64 1))) .i, rg 11 (.move 100) .i]) <|
 .reg [rg 74 (.move 9) .i, rg 75 (.bin .add 74 (.const (.int .i64 1))) .i, rg 9 (.move 75) .i]) <|
 .seq (.reg [rg 2 (.move (.const (.bool true))) .bool]) <|
 .ret
def f_w8_apart_L14 (n : Nat) (u0 : Value) (v1 : Int) (v4 : Int) (h5 : Heap) : Option (((Int × Unit) × Heap) ⊕ ((Unit) × Heap)) :=
  (ixB 1 u0 v1).bind fun q6 =>
  (ldTS .any h5 (some q6)).bind fun x7 =>
  (lenB x7).bind fun n8 =>
  bif (decide (v4 < (n8 : Int))) then
    ((ixB 1 u0 v1).bind fun q9 =>
    (ldTS .any h5 (some q9)).bind fun x10 =>
    (fillL (List.replicate 32 (.int .u8 0)) [(0, 1, (.int .u8 (IntKind.u8.wrap ((IntKind.i64.wrap (v1 + 1))))))]).bind fun cs11 =>
    (ixB 32 x10 v4).bind fun q12 =>
    (stB 32 (.agg ⟨cs11⟩) h5 (some q12)).bind fun h13 =>
    some (.inl (((IntKind.i64.wrap (v4 + 1)), ()), h13)))
  else
    (some (.inr ((), h5)))
def f_w8_apart_L16 (n : Nat) (u0 : Value) (v1 : Int) (h2 : Heap) : Option (((Int × Unit) × Heap) ⊕ ((Unit) × Heap)) :=
  (lenB u0).bind fun n3 =>
  bif (decide (v1 < (n3 : Int))) then
    (((loopT (fun a => f_w8_apart_L14 n u0 v1 a.1.1 a.2) n ((0, ()), h2)) : Option ((Unit) × Heap)).bind fun a15 =>
    some (.inl (((IntKind.i64.wrap (v1 + 1)), ()), a15.2)))
  else
    (some (.inr ((), h2)))
def f_w8_apart_L36 (n : Nat) (v19 : Int) (v24 : Value) (v25 : Value) (v26 : Int) (h27 : Heap) : Option (((Value × Value × Int × Unit) × Heap) ⊕ ((Value × Value × Unit) × Heap)) :=
  bif (decide (v26 < 70)) then
    ((((fillL (List.replicate 32 (.int .u8 0)) [(0, 1, (.int .u8 (IntKind.u8.wrap ((IntKind.i64.wrap (v19 + 1)))))), (1, 1, (.int .u8 1))]).bind fun cs28 =>
      (fillL (List.replicate 32 (.int .u8 0)) [(0, 32, (.agg ⟨cs28⟩))]).bind fun cs29 =>
      bnd ((Heap.new h27 (.cells cs29 false 32))) fun h30 =>
      (appendSK h30 32 32 v25 (.slice (some ⟨Heap.next h27, 0, some 0⟩) 1 1)).bind fun p31 =>
      bif (decide (v26 < 16)) then
        ((fillL [(.slice none 0 0)] [(0, 1, p31.1)]).bind fun cs32 =>
        bnd ((Heap.new p31.2 (.cells cs32 false 1))) fun h33 =>
        (appendSK h33 24 1 v24 (.slice (some ⟨Heap.next p31.2, 0, some 0⟩) 1 1)).bind fun p34 =>
        some ((p34.1, (p31.1, ())), p34.2))
      else
        (some ((v24, (p31.1, ())), p31.2))) : Option ((Value × Value × Unit) × Heap)).bind fun a35 =>
    some (.inl ((a35.1.1, (a35.1.2.1, ((IntKind.i64.wrap (v26 + 1)), ()))), a35.2)))
  else
    (some (.inr ((v24, (v25, ())), h27)))
def f_w8_apart_L42 (n : Nat) (u0 : Value) (v18 : Value) (v19 : Int) (h20 : Heap) : Option (((Value × Int × Unit) × Heap) ⊕ ((Value × Unit) × Heap)) :=
  (lenB u0).bind fun n21 =>
  bif (decide (v19 < (n21 : Int))) then
    ((((ixB 1 u0 v19).bind fun q22 =>
      (ldTS .any h20 (some q22)).bind fun x23 =>
      ((loopT (fun a => f_w8_apart_L36 n v19 a.1.1 a.1.2.1 a.1.2.2.1 a.2) n ((v18, (x23, (0, ()))), h20)) : Option ((Value × Value × Unit) × Heap)).bind fun a37 =>
      (fillL [(.slice none 0 0)] [(0, 1, a37.1.2.1)]).bind fun cs38 =>
      bnd ((Heap.new a37.2 (.cells cs38 false 1))) fun h39 =>
      (appendSK h39 24 1 a37.1.1 (.slice (some ⟨Heap.next a37.2, 0, some 0⟩) 1 1)).bind fun p40 =>
      some ((p40.1, ()), p40.2)) : Option ((Value × Unit) × Heap)).bind fun a41 =>
    some (.inl ((a41.1.1, ((IntKind.i64.wrap (v19 + 1)), ())), a41.2)))
  else
    (some (.inr ((v18, ()), h20)))
def f_w8_apart_L60 (n : Nat) (u0 : Value) (v44 : Int) (v49 : Int) (h50 : Heap) : Option (((Int × Unit) × Heap) ⊕ (((Unit) × Heap) ⊕ (((Unit) × Heap) ⊕ (((Int × Unit) × Heap) ⊕ ((Bool × Unit) × Heap))))) :=
  (ixB 1 u0 v44).bind fun q51 =>
  (ldTS .any h50 (some q51)).bind fun x52 =>
  (lenB x52).bind fun n53 =>
  bif (decide (v49 < (n53 : Int))) then
    ((ixB 1 u0 v44).bind fun q54 =>
    (ldTS .any h50 (some q54)).bind fun x55 =>
    (ixB 32 x55 v49).bind fun q56 =>
    (ldAS 32 h50 (some q56)).bind fun cs57 =>
    (fillL (List.replicate 32 (.int .u8 0)) [(0, 1, (.int .u8 (IntKind.u8.wrap ((IntKind.i64.wrap (v44 + 1))))))]).bind fun cs58 =>
    (eqVals h50 (.agg (List.replicate 32 false)) (.agg ⟨cs57⟩) (.agg ⟨cs58⟩)).bind fun b59 =>
    bif (!b59) then
      (some (.inr (.inr (.inr (.inr ((false, ()), h50))))))
    else
      (some (.inl (((IntKind.i64.wrap (v49 + 1)), ()), h50))))
  else
    (some (.inr (.inl ((), h50))))
def f_w8_apart_C61 (n : Nat) (u0 : Value) (v44 : Int) (h48 : Heap) : Option (((Unit) × Heap) ⊕ (((Unit) × Heap) ⊕ (((Int × Unit) × Heap) ⊕ ((Bool × Unit) × Heap)))) :=
  loopT (fun a => f_w8_apart_L60 n u0 v44 a.1.1 a.2) n ((0, ()), h48)
def f_w8_apart_L78 (n : Nat) (v44 : Int) (x67 : Value) (v71 : Int) (h72 : Heap) : Option (((Int × Unit) × Heap) ⊕ (((Unit) × Heap) ⊕ (((Int × Unit) × Heap) ⊕ (((Unit) × Heap) ⊕ (((Int × Unit) × Heap) ⊕ ((Bool × Unit) × Heap)))))) :=
  (lenB x67).bind fun n73 =>
  bif (decide (v71 < (n73 : Int))) then
    ((ixB 32 x67 v71).bind fun q74 =>
    (ldAS 32 h72 (some q74)).bind fun cs75 =>
    (fillL (List.replicate 32 (.int .u8 0)) [(0, 1, (.int .u8 (IntKind.u8.wrap ((IntKind.i64.wrap (v44 + 1)))))), (1, 1, (.int .u8 1))]).bind fun cs76 =>
    (eqVals h72 (.agg (List.replicate 32 false)) (.agg ⟨cs75⟩) (.agg ⟨cs76⟩)).bind fun b77 =>
    bif (!b77) then
      (some (.inr (.inr (.inr (.inr (.inr ((false, ()), h72)))))))
    else
      (some (.inl (((IntKind.i64.wrap (v71 + 1)), ()), h72))))
  else
    (some (.inr (.inl ((), h72))))
def f_w8_apart_C79 (n : Nat) (u0 : Value) (a43 : ((Value × Unit) × Heap)) (v44 : Int) (v63 : Int) (h65 : Heap) : Option (((Unit) × Heap) ⊕ (((Int × Unit) × Heap) ⊕ (((Unit) × Heap) ⊕ (((Int × Unit) × Heap) ⊕ ((Bool × Unit) × Heap))))) :=
  (ixB 1 a43.1.1 (IntKind.i64.wrap ((IntKind.i64.wrap (17 * v44)) + v63))).bind fun q66 =>
  (ldTS .any h65 (some q66)).bind fun x67 =>
  (ixB 1 u0 v44).bind fun q68 =>
  (ldTS .any h65 (some q68)).bind fun x69 =>
  (lenB x69).bind fun n70 =>
  loopT (fun a => f_w8_apart_L78 n v44 x67 a.1.1 a.2) n (((n70 : Int), ()), h65)
def f_w8_apart_L81 (n : Nat) (u0 : Value) (a43 : ((Value × Unit) × Heap)) (v44 : Int) (v63 : Int) (h64 : Heap) : Option (((Int × Unit) × Heap) ⊕ (((Unit) × Heap) ⊕ (((Int × Unit) × Heap) ⊕ ((Bool × Unit) × Heap)))) :=
  bif (decide (v63 < 17)) then
    (thenB (f_w8_apart_C79 n u0 a43 v44 v63 (h64)) fun a80 =>
    some (.inl (((IntKind.i64.wrap (v63 + 1)), ()), a80.2)))
  else
    (some (.inr (.inl ((), h64))))
def f_w8_apart_C82 (n : Nat) (u0 : Value) (a43 : ((Value × Unit) × Heap)) (v44 : Int) (h47 : Heap) : Option (((Unit) × Heap) ⊕ (((Int × Unit) × Heap) ⊕ ((Bool × Unit) × Heap))) :=
  thenB (f_w8_apart_C61 n u0 v44 (h47)) fun a62 =>
  loopT (fun a => f_w8_apart_L81 n u0 a43 v44 a.1.1 a.2) n ((0, ()), a62.2)
def f_w8_apart_L84 (n : Nat) (u0 : Value) (a43 : ((Value × Unit) × Heap)) (v44 : Int) (h45 : Heap) : Option (((Int × Unit) × Heap) ⊕ ((Bool × Unit) × Heap)) :=
  (lenB u0).bind fun n46 =>
  bif (decide (v44 < (n46 : Int))) then
    (thenB (f_w8_apart_C82 n u0 a43 v44 (h45)) fun a83 =>
    some (.inl (((IntKind.i64.wrap (v44 + 1)), ()), a83.2)))
  else
    (some (.inr ((true, ()), h45)))
noncomputable def sf_w8_apart (n : Nat) : Sf := sfOf []
noncomputable def it_w8_apart (n : Nat) : It := itOf []
def f_w8_apart (n : Nat) (u0 : Value) (h : Heap) : Option ((Bool × Unit) × Heap) :=
  bnd ((clrH h)) fun h0 =>
  ((loopT (fun a => f_w8_apart_L16 n u0 a.1.1 a.2) n ((0, ()), h0)) : Option ((Unit) × Heap)).bind fun a17 =>
  ((loopT (fun a => f_w8_apart_L42 n u0 a.1.1 a.1.2.1 a.2) n (((.slice none 0 0), (0, ())), a17.2)) : Option ((Value × Unit) × Heap)).bind fun a43 =>
  loopT (fun a => f_w8_apart_L84 n u0 a43 a.1.1 a.2) n ((0, ()), a43.2)
def rs_w8_apart : Rs := [(.tmp 2, .bool)]
def ps_w8_apart : List Ty := [.any]
theorem e_w8_apart (n : Nat) (u0 : Value) (h : Heap) : f_w8_apart n u0 h = fB (sf_w8_apart n) (it_w8_apart n) n c2_w8_apart rs_w8_apart ps_w8_apart (u0, ()) h := by kernel_rfl
noncomputable def s_w8_apart (n : Nat) : Sf1 := mkSf ps_w8_apart rs_w8_apart fun a h => f_w8_apart n a.1 h
/- (*wicket/sector.Disk).Len -/
def c2_sector_Disk_Len : C2 := .seq (.reg [rg 2 (.move (.const (.int .i64 0))) .i]) <|
 .seq (.seq (.reg [rg 3 (.move 0) .ptr, rg 4 (.eqv false .ptr 3 (.const (.pointer none))) .bool]) <|
 .cond 4 (.seq (.reg [rg 2 (.move (.const (.int .i64 0))) .i]) <|
 .ret) (.skip)) <|
 .seq (.reg [rg 5 (.move 0) .ptr, rg 6 (.nilCheck 5) .ptr, rg 7 (.fieldAddr 0 6) .ptr, rg 8 (.load false 1 7) .any, rg 9 (.lenS 8) .i, rg 2 (.move 9) .i]) <|
 .ret
noncomputable def sf_sector_Disk_Len (n : Nat) : Sf := sfOf []
noncomputable def it_sector_Disk_Len (n : Nat) : It := itOf []
def f_sector_Disk_Len (n : Nat) (u0 : Option Addr) (h : Heap) : Option ((Int × Unit) × Heap) :=
  bif (Option.isNone u0) then
    (some ((0, ()), h))
  else
    ((u0).bind fun q0 =>
    (ldT .any h (some (fa q0 0))).bind fun x1 =>
    (lenB x1).bind fun n2 =>
    some (((n2 : Int), ()), h))
def rs_sector_Disk_Len : Rs := [(.tmp 2, (.int .i64))]
def ps_sector_Disk_Len : List Ty := [.ptr]
theorem e_sector_Disk_Len (n : Nat) (u0 : Option Addr) (h : Heap) : f_sector_Disk_Len n u0 h = fB (sf_sector_Disk_Len n) (it_sector_Disk_Len n) n c2_sector_Disk_Len rs_sector_Disk_Len ps_sector_Disk_Len (u0, ()) h := by kernel_rfl
noncomputable def s_sector_Disk_Len (n : Nat) : Sf1 := mkSf ps_sector_Disk_Len rs_sector_Disk_Len fun a h => f_sector_Disk_Len n a.1 h
/- wicket/octet.Join -/
def c2_octet_Join : C2 := .seq (.reg [rg 2 (.move (.const (.slice none 0 0))) .any]) <|
 .seq (.reg [rg 3 (.move (.const (.slice none 0 0))) .any]) <|
 .seq (.seq (.reg [rg 6 (.move 0) .any, rg 7 (.lenS 6) .i, rg 8 (.move (.const (.int .i64 0))) .i]) <|
 .block 0 <|
 .loop [(3, .any), (8, .i)] <|
 .seq (.reg [rg 9 (.bin .lss 8 7) .any]) <|
 .seq (.cond 9 (.skip) (.exit 0)) <|
 .seq (.block 1 <|
 .seq (.reg [rg 10 (.idxSlice 1 6 8) .ptr, rg 11 (.load false 1 10) .any, rg 5 (.move 11) .any]) <|
 .reg [rg 12 (.move 3) .any, rg 13 (.move 5) .any, rg 14 (.append 1 1 12 13) .any, rg 3 (.move 14) .any]) <|
 .reg [rg 15 (.bin .add 8 (.const (.int .i64 1))) .i, rg 8 (.move 15) .i]) <|
 .seq (.reg [rg 16 (.move 3) .any, rg 2 (.move 16) .any]) <|
 .ret
def f_octet_Join_L7 (n : Nat) (u0 : Value) (n0 : Nat) (v1 : Value) (v2 : Int) (h3 : Heap) : Option (((Value × Int × Unit) × Heap) ⊕ ((Value × Unit) × Heap)) :=
  bif (decide (v2 < (n0 : Int))) then
    ((ixB 1 u0 v2).bind fun q4 =>
    (ldT .any h3 (some q4)).bind fun x5 =>
    (appendK h3 1 1 v1 x5).bind fun p6 =>
    some (.inl ((p6.1, ((IntKind.i64.wrap (v2 + 1)), ())), p6.2)))
  else
    (Option.map Sum.inr (bif !isTuple v1 then
      (some ((v1, ()), h3))
    else
      (none)))
noncomputable def sf_octet_Join (n : Nat) : Sf := sfOf []
noncomputable def it_octet_Join (n : Nat) : It := itOf []
def f_octet_Join (n : Nat) (u0 : Value) (h : Heap) : Option ((Value × Unit) × Heap) :=
  (lenB u0).bind fun n0 =>
  loopT (fun a => f_octet_Join_L7 n u0 n0 a.1.1 a.1.2.1 a.2) n (((.slice none 0 0), (0, ())), h)
def rs_octet_Join : Rs := [(.tmp 2, .any)]
def ps_octet_Join : List Ty := [.any]
theorem e_octet_Join (n : Nat) (u0 : Value) (h : Heap) : f_octet_Join n u0 h = fB (sf_octet_Join n) (it_octet_Join n) n c2_octet_Join rs_octet_Join ps_octet_Join (u0, ()) h := by kernel_rfl
noncomputable def s_octet_Join (n : Nat) : Sf1 := mkSf ps_octet_Join rs_octet_Join fun a h => f_octet_Join n a.1 h
/- wicket/sector.Load -/
def c2_sector_Load : C2 := .seq (.reg [rg 2 (.move (.const (.pointer none))) .ptr, rg 3 (.move (.const (.int .i64 0))) .i]) <|
 .seq (.reg [rg 7 (.move 0) .any, rg 8 (.lenS 7) .i, rg 9 (.bin .quo 8 (.const (.int .i64 64))) .i, rg 4 (.move 9) .i]) <|
 .seq (.seq (.cutn [(21, .bool)] <|
 .reg [rg 10 (.move 4) .i, rg 11 (.bin .lss 10 (.const (.int .i64 1))) .bool, rg 12 (.move 11) .bool, rq 13 (.move 4) 12 .i, rq 14 (.bin .gtr 13 (.const (.int .i64 4096))) 12 .bool, rg 15 (.pick 12 (.const (.bool true)) 14) .bool, rg 16 (.move 15) .bool, rq 17 (.move 0) 16 .any, rq 18 (.lenS 17) 16 .i, rq 19 (.bin .rem 18 (.const (.int .i64 64))) 16 .i, rq 20 (.bin .neq 19 (.const (.int .i64 0))) 16 .bool, rg 21 (.pick 16 (.const (.bool true)) 20) .bool]) <|
 .cond 21 (.seq (.reg [rg 2 (.move (.const (.pointer none))) .ptr, rg 3 (.move (.const (.int .i64 2))) .i]) <|
 .ret) (.skip)) <|
 .seq (.reg [rg 22 (.move 4) .i, rg 23 (.makeSlice 64 64 (List.replicate 64 (.int .u8 0)) 22 22) .any, rg 24 (.build [(.slice none 0 0), (.slice none 0 0)] [(0, 1, 23)]) .any, rg 25 (.box 24) .ptr, rg 5 (.move 25) .ptr]) <|
 .seq (.cutn [] <|
 .seq (.reg [rg 26 (.move 5) .ptr, rg 27 (.nilCheck 26) .ptr, rg 28 (.fieldAddr 0 27) .ptr, rg 29 (.load false 1 28) .any, rg 30 (.lenS 29) .i, rg 31 (.move (.const (.int .i64 0))) .i]) <|
 .block 0 <|
 .loop [(31, .i)] <|
 .seq (.reg [rg 32 (.bin .lss 31 30) .any]) <|
 .seq (.cond 32 (.skip) (.exit 0)) <|
 .seq (.block 1 <|
 .seq (.reg [rg 33 (.move 31) .i, rg 6 (.move 33) .i]) <|
 .regd [(⟨0, [], false, ⟨(some 34), .move 5, none⟩⟩, .ptr), (⟨1, [0], false, ⟨(some 35), .nilCheck 34, none⟩⟩, .ptr), (⟨2, [1, 0], false, ⟨(some 36), .fieldAddr 0 35, none⟩⟩, .ptr), (⟨3, [2, 1, 0], false, ⟨(some 37), .load false 1 36, none⟩⟩, .any), (⟨4, [], false, ⟨(some 38), .move 6, none⟩⟩, (.int .i64)), (⟨5, [], false, ⟨(some 39), .move 0, none⟩⟩, .any), (⟨6, [], false, ⟨(some 40), .move 6, none⟩⟩, (.int .i64)), (⟨7, [6], false, ⟨(some 41), .bin .mul 40 (.const (.int .i64 64)), none⟩⟩, (.int .i64)), (⟨8, [], false, ⟨(some 42), .move 6, none⟩⟩, (.int .i64)), (⟨9, [8], false, ⟨(some 43), .bin .add 42 (.const (.int .i64 1)), none⟩⟩, (.int .i64)), (⟨10, [9, 8], false, ⟨(some 44), .bin .mul 43 (.const (.int .i64 64)), none⟩⟩, (.int .i64)), (⟨11, [5, 7, 10, 6, 9, 8], false, ⟨(some 45), .slice 1 39 (some 41) (some 44) none, none⟩⟩, .any), (⟨12, [11, 5, 7, 10, 6, 9, 8], false, ⟨(some 46), .arrAt 64 45, none⟩⟩, .ptr), (⟨13, [12, 11, 5, 7, 10, 6, 9, 8], false, ⟨(some 47), .load true 64 46, none⟩⟩, .any), (⟨14, [3, 4, 0, 1, 2, 5, 6, 7, 8, 9, 10, 11, 12, 13], false, ⟨(some 48), .idxSlice 64 37 38, none⟩⟩, .ptr), (⟨15, [14, 13, 0, 1, 2, 3, 4, 5, 6, 7, 8, 9, 10, 11, 12], true, ⟨none, .store 64 48 47, none⟩⟩, .any)]) <|
 .reg [rg 49 (.bin .add 31 (.const (.int .i64 1))) .i, rg 31 (.move 49) .i]) <|
 .seq (.reg [rg 50 (.move 5) .ptr, rg 2 (.move 50) .ptr, rg 3 (.move (.const (.int .i64 0))) .i]) <|
 .ret
def f_sector_Load_L17 (n : Nat) (u0 : Value) (h4 : Heap) (n8 : Nat) (v9 : Int) (h10 : Heap) : Option (((Int × Unit) × Heap) ⊕ ((Unit) × Heap)) :=
  bif (decide (v9 < (n8 : Int))) then
    ((ldT .any h10 (some (fa (nwA h4) 0))).bind fun x11 =>
    (sliceK h10 1 (some (.int .i64 (IntKind.i64.wrap (v9 * 64)))) (some (.int .i64 (IntKind.i64.wrap ((IntKind.i64.wrap (v9 + 1)) * 64)))) none u0).bind fun p12 =>
    (arrB h10 64 p12.1).bind fun q13 =>
    (ldA 64 h10 q13).bind fun cs14 =>
    (ixB 64 x11 v9).bind fun q15 =>
    (stB 64 (.agg ⟨cs14⟩) h10 (some q15)).bind fun h16 =>
    some (.inl (((IntKind.i64.wrap (v9 + 1)), ()), h16)))
  else
    (some (.inr ((), h10)))
noncomputable def sf_sector_Load (n : Nat) : Sf := sfOf []
noncomputable def it_sector_Load (n : Nat) : It := itOf []
def f_sector_Load (n : Nat) (u0 : Value) (h : Heap) : Option ((Option Addr × Int × Unit) × Heap) :=
  (lenB u0).bind fun n0 =>
  ((bif (decide ((IntKind.i64.wrap (Int.tdiv (n0 : Int) 64)) < 1)) then
      (some ((true, ()), h))
    else
      (bif (decide (4096 < (IntKind.i64.wrap (Int.tdiv (n0 : Int) 64)))) then
        (some ((true, ()), h))
      else
        ((lenB u0).bind fun n1 =>
        some (((!decide ((Int.tmod (n1 : Int) 64) = 0)), ()), h)))) : Option ((Bool × Unit) × Heap)).bind fun a2 =>
  bif a2.1.1 then
    (some ((none, (2, ())), a2.2))
  else
    ((mkSl (Heap.next a2.2) 64 64 (List.replicate 64 (.int .u8 0)) (.int .i64 (IntKind.i64.wrap (Int.tdiv (n0 : Int) 64))) (.int .i64 (IntKind.i64.wrap (Int.tdiv (n0 : Int) 64)))).bind fun p3 =>
    bnd ((Heap.new a2.2 (p3.2))) fun h4 =>
    (fillL [(.slice none 0 0), (.slice none 0 0)] [(0, 1, p3.1)]).bind fun cs5 =>
    bif (cs5 : List Value).all isCell then
      (bnd ((Heap.new h4 (.cells cs5 false 0))) fun h6 =>
      (((ldT .any h6 (some (fa (nwA h4) 0))).bind fun x7 =>
        (lenB x7).bind fun n8 =>
        loopT (fun a => f_sector_Load_L17 n u0 h4 n8 a.1.1 a.2) n ((0, ()), h6)) : Option ((Unit) × Heap)).bind fun a18 =>
      some (((some (nwA h4)), (0, ())), a18.2))
    else
      (none))
def rs_sector_Load : Rs := [(.tmp 2, .ptr), (.tmp 3, (.int .i64))]
def ps_sector_Load : List Ty := [.any]
theorem e_sector_Load (n : Nat) (u0 : Value) (h : Heap) : f_sector_Load n u0 h = fB (sf_sector_Load n) (it_sector_Load n) n c2_sector_Load rs_sector_Load ps_sector_Load (u0, ()) h := by kernel_rfl
noncomputable def s_sector_Load (n : Nat) : Sf1 := mkSf ps_sector_Load rs_sector_Load fun a h => f_sector_Load n a.1 h
/- wicket/wicketref08.May -/
def c2_r8_May : C2 := .seq (.reg [rg 1 (.box 0) .ptr, rg 2 (.move (.const (.bool false))) .bool]) <|
 .seq (.seq (.cutn [(20, .bool)] <|
 .reg [rg 3 (.fieldAddr 0 1) .ptr, rg 4 (.load false 1 3) .i, rg 5 (.bin .lss 4 (.const (.int .i64 1))) .bool, rg 6 (.move 5) .bool, rq 7 (.fieldAddr 0 1) 6 .ptr, rq 8 (.load false 1 7) 6 .i, rq 9 (.bin .gtr 8 (.const (.int .i64 64))) 6 .bool, rg 10 (.pick 6 (.const (.bool true)) 9) .bool, rg 11 (.move 10) .bool, rq 12 (.fieldAddr 1 1) 11 .ptr, rq 13 (.load false 1 12) 11 .i, rq 14 (.bin .lss 13 (.const (.int .i64 2))) 11 .bool, rg 15 (.pick 11 (.const (.bool true)) 14) .bool, rg 16 (.move 15) .bool, rq 17 (.fieldAddr 1 1) 16 .ptr, rq 18 (.load false 1 17) 16 .i, rq 19 (.bin .gtr 18 (.const (.int .i64 64))) 16 .bool, rg 20 (.pick 16 (.const (.bool true)) 19) .bool]) <|
 .cond 20 (.seq (.reg [rg 2 (.move (.const (.bool false))) .bool]) <|
 .ret) (.skip)) <|
 .seq (.seq (.cutn [(43, .bool)] <|
 .reg [rg 21 (.fieldAddr 2 1) .ptr, rg 22 (.load false 1 21) .i, rg 23 (.bin .lss 22 (.const (.int .i64 1))) .bool, rg 24 (.move 23) .bool, rq 25 (.fieldAddr 2 1) 24 .ptr, rq 26 (.load false 1 25) 24 .i, rq 27 (.bin .gtr 26 (.const (.int .i64 16))) 24 .bool, rg 28 (.pick 24 (.const (.bool true)) 27) .bool, rg 29 (.move 28) .bool, rq 30 (.fieldAddr 2 1) 29 .ptr, rq 31 (.load false 1 30) 29 .i, rq 32 (.fieldAddr 0 1) 29 .ptr, rq 33 (.load false 1 32) 29 .i, rq 34 (.bin .gtr 31 33) 29 .bool, rg 35 (.pick 29 (.const (.bool true)) 34) .bool, rg 36 (.move 35) .bool, rq 37 (.fieldAddr 2 1) 36 .ptr, rq 38 (.load false 1 37) 36 .i, rq 39 (.fieldAddr 1 1) 36 .ptr, rq 40 (.load false 1 39) 36 .i, rq 41 (.bin .sub 40 (.const (.int .i64 1))) 36 .i, rq 42 (.bin .gtr 38 41) 36 .bool, rg 43 (.pick 36 (.const (.bool true)) 42) .bool]) <|
 .cond 43 (.seq (.reg [rg 2 (.move (.const (.bool false))) .bool]) <|
 .ret) (.skip)) <|
 .seq (.reg [rg 44 (.fieldAddr 3 1) .ptr, rg 45 (.load false 1 44) .i, rg 46 (.bin .geq 45 (.const (.int .i64 1))) .bool, rg 47 (.move 46) .bool, rp 48 (.fieldAddr 3 1) 47 .ptr, rp 49 (.load false 1 48) 47 .i, rp 50 (.fieldAddr 1 1) 47 .ptr, rp 51 (.load false 1 50) 47 .i, rp 52 (.bin .leq 49 51) 47 .bool, rg 53 (.pick 47 52 (.const (.bool false))) .bool, rg 54 (.move 53) .bool, rp 55 (.fieldAddr 4 1) 54 .ptr, rp 56 (.load false 1 55) 54 .i, rp 57 (.bin .geq 56 (.const (.int .i64 1))) 54 .bool, rg 58 (.pick 54 57 (.const (.bool false))) .bool, rg 59 (.move 58) .bool, rp 60 (.fieldAddr 4 1) 59 .ptr, rp 61 (.load false 1 60) 59 .i, rp 62 (.bin .leq 61 (.const (.int .i64 8))) 59 .bool, rg 63 (.pick 59 62 (.const (.bool false))) .bool, rg 2 (.move 63) .bool]) <|
 .ret
noncomputable def sf_r8_May (n : Nat) : Sf := sfOf []
noncomputable def it_r8_May (n : Nat) : It := itOf []
def f_r8_May (n : Nat) (u0 : Value) (h : Heap) : Option ((Bool × Unit) × Heap) :=
  bif (cellsOf u0).all isCell then
    (bnd ((Heap.new h (.cells (cellsOf u0) false 0))) fun h0 =>
    (((ldT (.int .i64) h0 (some (fa (nwA h) 0))).bind fun x1 =>
      bif (decide (x1 < 1)) then
        (some ((true, ()), h0))
      else
        ((ldT (.int .i64) h0 (some (fa (nwA h) 0))).bind fun x2 =>
        bif (decide (64 < x2)) then
          (some ((true, ()), h0))
        else
          ((ldT (.int .i64) h0 (some (fa (nwA h) 1))).bind fun x3 =>
          bif (decide (x3 < 2)) then
            (some ((true, ()), h0))
          else
            ((ldT (.int .i64) h0 (some (fa (nwA h) 1))).bind fun x4 =>
            some (((decide (64 < x4)), ()), h0))))) : Option ((Bool × Unit) × Heap)).bind fun a5 =>
    bif a5.1.1 then
      (some ((false, ()), a5.2))
    else
      ((((ldT (.int .i64) a5.2 (some (fa (nwA h) 2))).bind fun x6 =>
        bif (decide (x6 < 1)) then
          (some ((true, ()), a5.2))
        else
          ((ldT (.int .i64) a5.2 (some (fa (nwA h) 2))).bind fun x7 =>
          bif (decide (16 < x7)) then
            (some ((true, ()), a5.2))
          else
            ((ldT (.int .i64) a5.2 (some (fa (nwA h) 2))).bind fun x8 =>
            (ldT (.int .i64) a5.2 (some (fa (nwA h) 0))).bind fun x9 =>
            bif (decide (x9 < x8)) then
              (some ((true, ()), a5.2))
            else
              ((ldT (.int .i64) a5.2 (some (fa (nwA h) 2))).bind fun x10 =>
              (ldT (.int .i64) a5.2 (some (fa (nwA h) 1))).bind fun x11 =>
              some (((decide ((IntKind.i64.wrap (x11 - 1)) < x10)), ()), a5.2))))) : Option ((Bool × Unit) × Heap)).bind fun a12 =>
      bif a12.1.1 then
        (some ((false, ()), a12.2))
      else
        ((ldT (.int .i64) a12.2 (some (fa (nwA h) 3))).bind fun x13 =>
        bif (decide (1 ≤ x13)) then
          ((ldT (.int .i64) a12.2 (some (fa (nwA h) 3))).bind fun x14 =>
          (ldT (.int .i64) a12.2 (some (fa (nwA h) 1))).bind fun x15 =>
          bif (decide (x14 ≤ x15)) then
            ((ldT (.int .i64) a12.2 (some (fa (nwA h) 4))).bind fun x16 =>
            bif (decide (1 ≤ x16)) then
              ((ldT (.int .i64) a12.2 (some (fa (nwA h) 4))).bind fun x17 =>
              some (((decide (x17 ≤ 8)), ()), a12.2))
            else
              (some ((false, ()), a12.2)))
          else
            (some ((false, ()), a12.2)))
        else
          (some ((false, ()), a12.2)))))
  else
    (none)
def rs_r8_May : Rs := [(.tmp 2, .bool)]
def ps_r8_May : List Ty := [.any]
theorem e_r8_May (n : Nat) (u0 : Value) (h : Heap) : f_r8_May n u0 h = fB (sf_r8_May n) (it_r8_May n) n c2_r8_May rs_r8_May ps_r8_May (u0, ()) h := by kernel_rfl
noncomputable def s_r8_May (n : Nat) : Sf1 := mkSf ps_r8_May rs_r8_May fun a h => f_r8_May n a.1 h
/- wicket/wicketref04.Load -/
def c2_r4_Load : C2 := .seq (.reg [rg 2 (.move (.const (.pointer none))) .ptr, rg 3 (.move (.const (.int .i64 0))) .i]) <|
 .seq (.seq (.cutn [(17, .bool)] <|
 .reg [rg 4 (.move 0) .any, rg 5 (.lenS 4) .i, rg 6 (.bin .eql 5 (.const (.int .i64 0))) .bool, rg 7 (.move 6) .bool, rq 8 (.move 0) 7 .any, rq 9 (.lenS 8) 7 .i, rq 10 (.bin .rem 9 (.const (.int .i64 64))) 7 .i, rq 11 (.bin .neq 10 (.const (.int .i64 0))) 7 .bool, rg 12 (.pick 7 (.const (.bool true)) 11) .bool, rg 13 (.move 12) .bool, rq 14 (.move 0) 13 .any, rq 15 (.lenS 14) 13 .i, rq 16 (.bin .gtr 15 (.const (.int .i64 262144))) 13 .bool, rg 17 (.pick 13 (.const (.bool true)) 16) .bool]) <|
 .cond 17 (.seq (.reg [rg 2 (.move (.const (.pointer none))) .ptr, rg 3 (.move (.const (.int .i64 2))) .i]) <|
 .ret) (.skip)) <|
 .seq (.reg [rg 18 (.buildSlice 0 1 [] []) .any, rg 19 (.move 0) .any, rg 20 (.append 1 1 18 19) .any, rg 21 (.build [(.slice none 0 0), (.slice none 0 0)] [(0, 1, 20)]) .any, rg 22 (.box 21) .ptr, rg 2 (.move 22) .ptr, rg 3 (.move (.const (.int .i64 0))) .i]) <|
 .ret
noncomputable def sf_r4_Load (n : Nat) : Sf := sfOf []
noncomputable def it_r4_Load (n : Nat) : It := itOf []
def f_r4_Load (n : Nat) (u0 : Value) (h : Heap) : Option ((Option Addr × Int × Unit) × Heap) :=
  (((lenB u0).bind fun n0 =>
    bif (decide ((n0 : Int) = 0)) then
      (some ((true, ()), h))
    else
      ((lenB u0).bind fun n1 =>
      bif (!decide ((Int.tmod (n1 : Int) 64) = 0)) then
        (some ((true, ()), h))
      else
        ((lenB u0).bind fun n2 =>
        some (((decide (262144 < (n2 : Int))), ()), h)))) : Option ((Bool × Unit) × Heap)).bind fun a3 =>
  bif a3.1.1 then
    (some ((none, (2, ())), a3.2))
  else
    ((fillL [] []).bind fun cs4 =>
    bnd ((Heap.new a3.2 (.cells cs4 false 1))) fun h5 =>
    (appendK h5 1 1 (.slice (some ⟨Heap.next a3.2, 0, some 0⟩) 0 0) u0).bind fun p6 =>
    (fillL [(.slice none 0 0), (.slice none 0 0)] [(0, 1, p6.1)]).bind fun cs7 =>
    bif (cs7 : List Value).all isCell then
      (bnd ((Heap.new p6.2 (.cells cs7 false 0))) fun h8 =>
      some (((some (nwA p6.2)), (0, ())), h8))
    else
      (none))
def rs_r4_Load : Rs := [(.tmp 2, .ptr), (.tmp 3, (.int .i64))]
def ps_r4_Load : List Ty := [.any]
theorem e_r4_Load (n : Nat) (u0 : Value) (h : Heap) : f_r4_Load n u0 h = fB (sf_r4_Load n) (it_r4_Load n) n c2_r4_Load rs_r4_Load ps_r4_Load (u0, ()) h := by kernel_rfl
noncomputable def s_r4_Load (n : Nat) : Sf1 := mkSf ps_r4_Load rs_r4_Load fun a h => f_r4_Load n a.1 h
/- (*wicket/sector.Disk).Image -/
def c2_sector_Disk_Image : C2 := .seq (.reg [rg 2 (.move (.const (.slice none 0 0))) .any]) <|
 .seq (.seq (.reg [rg 6 (.move 0) .ptr, rg 7 (.eqv false .ptr 6 (.const (.pointer none))) .bool]) <|
 .cond 7 (.seq (.reg [rg 2 (.move (.const (.slice none 0 0))) .any]) <|
 .ret) (.skip)) <|
 .seq (.reg [rg 8 (.move 0) .ptr, rg 9 (.nilCheck 8) .ptr, rg 10 (.fieldAddr 0 9) .ptr, rg 11 (.load false 1 10) .any, rg 12 (.lenS 11) .i, rg 13 (.bin .mul 12 (.const (.int .i64 64))) .i, rg 14 (.makeSlice 1 1 [(.int .u8 0)] (.const (.int .i64 0)) 13) .any, rg 3 (.move 14) .any]) <|
 .seq (.seq (.reg [rg 15 (.move 0) .ptr, rg 16 (.nilCheck 15) .ptr, rg 17 (.fieldAddr 0 16) .ptr, rg 18 (.load false 1 17) .any, rg 19 (.lenS 18) .i, rg 20 (.move (.const (.int .i64 0))) .i]) <|
 .block 0 <|
 .loop [(3, .any), (20, .i)] <|
 .seq (.reg [rg 21 (.bin .lss 20 19) .any]) <|
 .seq (.cond 21 (.skip) (.exit 0)) <|
 .seq (.block 1 <|
 .seq (.reg [rg 22 (.idxSlice 64 18 20) .ptr, rg 23 (.load true 64 22) .any, rg 5 (.alloc (List.replicate 64 (.int .u8 0))) .ptr, rn (.store 64 5 23) .any]) <|
 .reg [rg 24 (.move 3) .any, rg 25 (.sliceArr 64 1 5 none none none) .any, rg 26 (.append 1 1 24 25) .any, rg 3 (.move 26) .any]) <|
 .reg [rg 27 (.bin .add 20 (.const (.int .i64 1))) .i, rg 20 (.move 27) .i]) <|
 .seq (.reg [rg 28 (.move 3) .any, rg 2 (.move 28) .any]) <|
 .ret
def f_sector_Disk_Image_L17 (n : Nat) (x6 : Value) (n7 : Nat) (v8 : Value) (v9 : Int) (h10 : Heap) : Option (((Value × Int × Unit) × Heap) ⊕ ((Value × Unit) × Heap)) :=
  bif (decide (v9 < (n7 : Int))) then
    ((ixB 64 x6 v9).bind fun q11 =>
    (ldA 64 h10 (some q11)).bind fun cs12 =>
    bnd ((Heap.new h10 (.cells (List.replicate 64 (.int .u8 0)) false 0))) fun h13 =>
    (stB 64 (.agg ⟨cs12⟩) h13 (some (nwA h10))).bind fun h14 =>
    (sliceArrK h14 64 1 none none (.pointer (some (nwA h10)))).bind fun p15 =>
    (appendK h14 1 1 v8 p15.1).bind fun p16 =>
    some (.inl ((p16.1, ((IntKind.i64.wrap (v9 + 1)), ())), p16.2)))
  else
    (Option.map Sum.inr (bif !isTuple v8 then
      (some ((v8, ()), h10))
    else
      (none)))
noncomputable def sf_sector_Disk_Image (n : Nat) : Sf := sfOf []
noncomputable def it_sector_Disk_Image (n : Nat) : It := itOf []
def f_sector_Disk_Image (n : Nat) (u0 : Option Addr) (h : Heap) : Option ((Value × Unit) × Heap) :=
  bif (Option.isNone u0) then
    (some (((.slice none 0 0), ()), h))
  else
    ((u0).bind fun q0 =>
    (ldT .any h (some (fa q0 0))).bind fun x1 =>
    (lenB x1).bind fun n2 =>
    (mkSl (Heap.next h) 1 1 [(.int .u8 0)] (.int .i64 0) (.int .i64 (IntKind.i64.wrap ((n2 : Int) * 64)))).bind fun p3 =>
    bnd ((Heap.new h (p3.2))) fun h4 =>
    (u0).bind fun q5 =>
    (ldT .any h4 (some (fa q5 0))).bind fun x6 =>
    (lenB x6).bind fun n7 =>
    loopT (fun a => f_sector_Disk_Image_L17 n x6 n7 a.1.1 a.1.2.1 a.2) n ((p3.1, (0, ())), h4))
def rs_sector_Disk_Image : Rs := [(.tmp 2, .any)]
def ps_sector_Disk_Image : List Ty := [.ptr]
theorem e_sector_Disk_Image (n : Nat) (u0 : Option Addr) (h : Heap) : f_sector_Disk_Image n u0 h = fB (sf_sector_Disk_Image n) (it_sector_Disk_Image n) n c2_sector_Disk_Image rs_sector_Disk_Image ps_sector_Disk_Image (u0, ()) h := by kernel_rfl
noncomputable def s_sector_Disk_Image (n : Nat) : Sf1 := mkSf ps_sector_Disk_Image rs_sector_Disk_Image fun a h => f_sector_Disk_Image n a.1 h
/- (*wicket/sector.Disk).Flush -/
def c2_sector_Disk_Flush : C2 := .seq (.reg [rg 2 (.move (.const (.int .i64 0))) .i, rg 3 (.move (.const (.int .i64 0))) .i]) <|
 .seq (.seq (.reg [rg 7 (.move 0) .ptr, rg 8 (.eqv false .ptr 7 (.const (.pointer none))) .bool]) <|
 .cond 8 (.seq (.reg [rg 2 (.move (.const (.int .i64 0))) .i, rg 3 (.move (.const (.int .i64 1))) .i]) <|
 .ret) (.skip)) <|
 .seq (.cutn [] <|
 .seq (.reg [rg 9 (.move 0) .ptr, rg 10 (.nilCheck 9) .ptr, rg 11 (.fieldAddr 1 10) .ptr, rg 12 (.load false 1 11) .any, rg 13 (.lenS 12) .i, rg 14 (.move (.const (.int .i64 0))) .i]) <|
 .block 0 <|
 .loop [(14, .i)] <|
 .seq (.reg [rg 15 (.bin .lss 14 13) .any]) <|
 .seq (.cond 15 (.skip) (.exit 0)) <|
 .seq (.block 1 <|
 .seq (.reg [rg 16 (.idxSlice 65 12 14) .ptr, rg 17 (.load true 65 16) .any, rg 5 (.alloc [(.int .i64 0), (.int .u8 0), (.int .u8 0), (.int .u8 0), (.int .u8 0), (.int .u8 0), (.int .u8 0), (.int .u8 0), (.int .u8 0), (.int .u8 0), (.int .u8 0), (.int .u8 0), (.int .u8 0), (.int .u8 0), (.int .u8 0), (.int .u8 0), (.int .u8 0), (.int .u8 0), (.int .u8 0), (.int .u8 0), (.int .u8 0), (.int .u8 0), (.int .u8 0), (.int .u8 0), (.int .u8 0), (.int .u8 0), (.int .u8 0), (.int .u8 0), (.int .u8 0), (.int .u8 0), (.int .u8 0), (.int .u8 0), (.int .u8 0), (.int .u8 0), (.int .u8 0), (.int .u8 0), (.int .u8 0), (.int .u8 0), (.int .u8 0), (.int .u8 0), (.int .u8 0), (.int .u8 0), (.int .u8 0), (.int .u8 0), (.int .u8 0), (.int .u8 0), (.int .u8 0), (.int .u8 0), (.int .u8 0), (.int .u8 0), (.int .u8 0), (.int .u8 0), (.int .u8 0), (.int .u8 0), (.int .u8 0), (.int .u8 0), (.int .u8 0), (.int .u8 0), (.int .u8 0), (.int .u8 0), (.int .u8 0), (.int .u8 0), (.int .u8 0), (.int .u8 0), (.int .u8 0)]) .ptr, rn (.store 65 5 17) .any]) <|
 .regd [(⟨0, [], false, ⟨(some 18), .move 0, none⟩⟩, .ptr), (⟨1, [0], false, ⟨(some 19), .nilCheck 18, none⟩⟩, .ptr), (⟨2, [1, 0], false, ⟨(some 20), .fieldAddr 0 19, none⟩⟩, .ptr), (⟨3, [2, 1, 0], false, ⟨(some 21), .load false 1 20, none⟩⟩, .any), (⟨4, [], false, ⟨(some 22), .fieldAddr 0 5, none⟩⟩, .ptr), (⟨5, [4], false, ⟨(some 23), .load false 1 22, none⟩⟩, (.int .i64)), (⟨6, [], false, ⟨(some 24), .fieldAddr 1 5, none⟩⟩, .ptr), (⟨7, [6], false, ⟨(some 25), .load true 64 24, none⟩⟩, .any), (⟨8, [3, 5, 0, 1, 2, 4, 6, 7], false, ⟨(some 26), .idxSlice 64 21 23, none⟩⟩, .ptr), (⟨9, [8, 7, 0, 1, 2, 3, 4, 5, 6], true, ⟨none, .store 64 26 25, none⟩⟩, .any)]) <|
 .reg [rg 27 (.bin .add 14 (.const (.int .i64 1))) .i, rg 14 (.move 27) .i]) <|
 .seq (.reg [rg 28 (.move 0) .ptr, rg 29 (.nilCheck 28) .ptr, rg 30 (.fieldAddr 1 29) .ptr, rg 31 (.load false 1 30) .any, rg 32 (.lenS 31) .i, rg 6 (.move 32) .i]) <|
 .seq (.reg [rg 33 (.move 0) .ptr, rg 34 (.nilCheck 33) .ptr, rg 35 (.fieldAddr 1 34) .ptr, rn (.store 1 35 (.const (.slice none 0 0))) .any]) <|
 .seq (.reg [rg 36 (.move 6) .i, rg 2 (.move 36) .i, rg 3 (.move (.const (.int .i64 0))) .i]) <|
 .ret
def f_sector_Disk_Flush_L15 (n : Nat) (u0 : Option Addr) (x1 : Value) (n2 : Nat) (v3 : Int) (h4 : Heap) : Option (((Int × Unit) × Heap) ⊕ ((Unit) × Heap)) :=
  bif (decide (v3 < (n2 : Int))) then
    ((ixB 65 x1 v3).bind fun q5 =>
    (ldA 65 h4 (some q5)).bind fun cs6 =>
    bnd ((Heap.new h4 (.cells [(.int .i64 0), (.int .u8 0), (.int .u8 0), (.int .u8 0), (.int .u8 0), (.int .u8 0), (.int .u8 0), (.int .u8 0), (.int .u8 0), (.int .u8 0), (.int .u8 0), (.int .u8 0), (.int .u8 0), (.int .u8 0), (.int .u8 0), (.int .u8 0), (.int .u8 0), (.int .u8 0), (.int .u8 0), (.int .u8 0), (.int .u8 0), (.int .u8 0), (.int .u8 0), (.int .u8 0), (.int .u8 0), (.int .u8 0), (.int .u8 0), (.int .u8 0), (.int .u8 0), (.int .u8 0), (.int .u8 0), (.int .u8 0), (.int .u8 0), (.int .u8 0), (.int .u8 0), (.int .u8 0), (.int .u8 0), (.int .u8 0), (.int .u8 0), (.int .u8 0), (.int .u8 0), (.int .u8 0), (.int .u8 0), (.int .u8 0), (.int .u8 0), (.int .u8 0), (.int .u8 0), (.int .u8 0), (.int .u8 0), (.int .u8 0), (.int .u8 0), (.int .u8 0), (.int .u8 0), (.int .u8 0), (.int .u8 0), (.int .u8 0), (.int .u8 0), (.int .u8 0), (.int .u8 0), (.int .u8 0), (.int .u8 0), (.int .u8 0), (.int .u8 0), (.int .u8 0), (.int .u8 0)] false 0))) fun h7 =>
    (stB 65 (.agg ⟨cs6⟩) h7 (some (nwA h4))).bind fun h8 =>
    (u0).bind fun q9 =>
    (ldT .any h8 (some (fa q9 0))).bind fun x10 =>
    (ldT (.int .i64) h8 (some (fa (nwA h4) 0))).bind fun x11 =>
    (ldA 64 h8 (some (fa (nwA h4) 1))).bind fun cs12 =>
    (ixB 64 x10 x11).bind fun q13 =>
    (stB 64 (.agg ⟨cs12⟩) h8 (some q13)).bind fun h14 =>
    some (.inl (((IntKind.i64.wrap (v3 + 1)), ()), h14)))
  else
    (some (.inr ((), h4)))
noncomputable def sf_sector_Disk_Flush (n : Nat) : Sf := sfOf []
noncomputable def it_sector_Disk_Flush (n : Nat) : It := itOf []
def f_sector_Disk_Flush (n : Nat) (u0 : Option Addr) (h : Heap) : Option ((Int × Int × Unit) × Heap) :=
  bif (Option.isNone u0) then
    (some ((0, (1, ())), h))
  else
    ((((u0).bind fun q0 =>
      (ldT .any h (some (fa q0 1))).bind fun x1 =>
      (lenB x1).bind fun n2 =>
      loopT (fun a => f_sector_Disk_Flush_L15 n u0 x1 n2 a.1.1 a.2) n ((0, ()), h)) : Option ((Unit) × Heap)).bind fun a16 =>
    (u0).bind fun q17 =>
    (ldT .any a16.2 (some (fa q17 1))).bind fun x18 =>
    (lenB x18).bind fun n19 =>
    (u0).bind fun q20 =>
    (stB 1 (.slice none 0 0) a16.2 (some (fa q20 1))).bind fun h21 =>
    some (((n19 : Int), (0, ())), h21))
def rs_sector_Disk_Flush : Rs := [(.tmp 2, (.int .i64)), (.tmp 3, (.int .i64))]
def ps_sector_Disk_Flush : List Ty := [.ptr]
theorem e_sector_Disk_Flush (n : Nat) (u0 : Option Addr) (h : Heap) : f_sector_Disk_Flush n u0 h = fB (sf_sector_Disk_Flush n) (it_sector_Disk_Flush n) n c2_sector_Disk_Flush rs_sector_Disk_Flush ps_sector_Disk_Flush (u0, ()) h := by kernel_rfl
noncomputable def s_sector_Disk_Flush (n : Nat) : Sf1 := mkSf ps_sector_Disk_Flush rs_sector_Disk_Flush fun a h => f_sector_Disk_Flush n a.1 h
/- (*wicket/sector.Disk).Crash -/
def c2_sector_Disk_Crash : C2 := .seq (.reg [rg 4 (.move (.const (.int .i64 0))) .i, rg 5 (.move (.const (.int .i64 0))) .i]) <|
 .seq (.seq (.reg [rg 12 (.move 0) .ptr, rg 13 (.eqv false .ptr 12 (.const (.pointer none))) .bool]) <|
 .cond 13 (.seq (.reg [rg 4 (.move (.const (.int .i64 0))) .i, rg 5 (.move (.const (.int .i64 1))) .i]) <|
 .ret) (.skip)) <|
 .seq (.reg [rg 14 (.move 0) .ptr, rg 15 (.nilCheck 14) .ptr, rg 16 (.fieldAddr 1 15) .ptr, rg 17 (.load false 1 16) .any, rg 18 (.lenS 17) .i, rg 19 (.makeSlice 1 1 [(.int .u8 0)] 18 18) .any, rg 6 (.move 19) .any]) <|
 .seq (.cutn [] <|
 .seq (.reg [rg 20 (.move 1) .any, rg 21 (.lenS 20) .i, rg 22 (.move (.const (.int .i64 0))) .i]) <|
 .block 0 <|
 .loop [(22, .i)] <|
 .seq (.reg [rg 23 (.bin .lss 22 21) .any]) <|
 .seq (.cond 23 (.skip) (.exit 0)) <|
 .seq (.cutn [] <|
 .block 1 <|
 .seq (.reg [rg 24 (.idxSlice 1 20 22) .ptr, rg 25 (.load false 1 24) .i, rg 8 (.move 25) .i]) <|
 .seq (.cutn [(33, .bool)] <|
 .reg [rg 26 (.move 8) .i, rg 27 (.bin .geq 26 (.const (.int .i64 0))) .bool, rg 28 (.move 27) .bool, rp 29 (.move 8) 28 .i, rp 30 (.move 6) 28 .any, rp 31 (.lenS 30) 28 .i, rp 32 (.bin .lss 29 31) 28 .bool, rg 33 (.pick 28 32 (.const (.bool false))) .bool]) <|
 .cond 33 (.reg [rg 34 (.move 6) .any, rg 35 (.move 8) .i, rg 36 (.idxSlice 1 34 35) .ptr, rn (.store 1 36 (.const (.int .u8 1))) .any]) (.skip)) <|
 .reg [rg 37 (.bin .add 22 (.const (.int .i64 1))) .i, rg 22 (.move 37) .i]) <|
 .seq (.cutn [] <|
 .seq (.reg [rg 38 (.move 0) .ptr, rg 39 (.nilCheck 38) .ptr, rg 40 (.fieldAddr 1 39) .ptr, rg 41 (.load false 1 40) .any, rg 42 (.lenS 41) .i, rg 43 (.move (.const (.int .i64 0))) .i]) <|
 .block 2 <|
 .loop [(43, .i)] <|
 .seq (.reg [rg 44 (.bin .lss 43 42) .any]) <|
 .seq (.cond 44 (.skip) (.exit 2)) <|
 .seq (.cutn [] <|
 .block 3 <|
 .seq (.reg [rg 45 (.move 43) .i, rg 46 (.idxSlice 65 41 43) .ptr, rg 47 (.load true 65 46) .any, rg 10 (.alloc [(.int .i64 0), (.int .u8 0), (.int .u8 0), (.int .u8 0), (.int .u8 0), (.int .u8 0), (.int .u8 0), (.int .u8 0), (.int .u8 0), (.int .u8 0), (.int .u8 0), (.int .u8 0), (.int .u8 0), (.int .u8 0), (.int .u8 0), (.int .u8 0), (.int .u8 0), (.int .u8 0), (.int .u8 0), (.int .u8 0), (.int .u8 0), (.int .u8 0), (.int .u8 0), (.int .u8 0), (.int .u8 0), (.int .u8 0), (.int .u8 0), (.int .u8 0), (.int .u8 0), (.int .u8 0), (.int .u8 0), (.int .u8 0), (.int .u8 0), (.int .u8 0), (.int .u8 0), (.int .u8 0), (.int .u8 0), (.int .u8 0), (.int .u8 0), (.int .u8 0), (.int .u8 0), (.int .u8 0), (.int .u8 0), (.int .u8 0), (.int .u8 0), (.int .u8 0), (.int .u8 0), (.int .u8 0), (.int .u8 0), (.int .u8 0), (.int .u8 0), (.int .u8 0), (.int .u8 0), (.int .u8 0), (.int .u8 0), (.int .u8 0), (.int .u8 0), (.int .u8 0), (.int .u8 0), (.int .u8 0), (.int .u8 0), (.int .u8 0), (.int .u8 0), (.int .u8 0), (.int .u8 0)]) .ptr, rg 9 (.move 45) .i, rn (.store 65 10 47) .any]) <|
 .seq (.reg [rg 48 (.move 6) .any, rg 49 (.move 9) .i, rg 50 (.idxSlice 1 48 49) .ptr, rg 51 (.load false 1 50) .u, rg 52 (.bin .eql 51 (.const (.int .u8 1))) .bool]) <|
 .cond 52 (.regd [(⟨0, [], false, ⟨(some 53), .move 0, none⟩⟩, .ptr), (⟨1, [0], false, ⟨(some 54), .nilCheck 53, none⟩⟩, .ptr), (⟨2, [1, 0], false, ⟨(some 55), .fieldAddr 0 54, none⟩⟩, .ptr), (⟨3, [2, 1, 0], false, ⟨(some 56), .load false 1 55, none⟩⟩, .any), (⟨4, [], false, ⟨(some 57), .fieldAddr 0 10, none⟩⟩, .ptr), (⟨5, [4], false, ⟨(some 58), .load false 1 57, none⟩⟩, (.int .i64)), (⟨6, [], false, ⟨(some 59), .fieldAddr 1 10, none⟩⟩, .ptr), (⟨7, [6], false, ⟨(some 60), .load true 64 59, none⟩⟩, .any), (⟨8, [3, 5, 0, 1, 2, 4, 6, 7], false, ⟨(some 61), .idxSlice 64 56 58, none⟩⟩, .ptr), (⟨9, [8, 7, 0, 1, 2, 3, 4, 5, 6], true, ⟨none, .store 64 61 60, none⟩⟩, .any)]) (.skip)) <|
 .reg [rg 62 (.bin .add 43 (.const (.int .i64 1))) .i, rg 43 (.move 62) .i]) <|
 .seq (.reg [rg 63 (.move 0) .ptr, rg 64 (.nilCheck 63) .ptr, rg 65 (.fieldAddr 1 64) .ptr, rg 66 (.load false 1 65) .any, rg 67 (.lenS 66) .i, rg 11 (.move 67) .i]) <|
 .seq (.reg [rg 68 (.move 0) .ptr, rg 69 (.nilCheck 68) .ptr, rg 70 (.fieldAddr 1 69) .ptr, rn (.store 1 70 (.const (.slice none 0 0))) .any]) <|
 .seq (.reg [rg 71 (.move 11) .i, rg 4 (.move 71) .i, rg 5 (.move (.const (.int .i64 0))) .i]) <|
 .ret
def f_sector_Disk_Crash_L15 (n : Nat) (u1 : Value) (p3 : (Value × AObj)) (n5 : Nat) (v6 : Int) (h7 : Heap) : Option (((Int × Unit) × Heap) ⊕ ((Unit) × Heap)) :=
  bif (decide (v6 < (n5 : Int))) then
    ((((ixB 1 u1 v6).bind fun q8 =>
      (ldT (.int .i64) h7 (some q8)).bind fun x9 =>
      ((bif (decide (0 ≤ x9)) then
          ((lenB p3.1).bind fun n10 =>
          some (((decide (x9 < (n10 : Int))), ()), h7))
        else
          (some ((false, ()), h7))) : Option ((Bool × Unit) × Heap)).bind fun a11 =>
      bif a11.1.1 then
        ((ixB 1 p3.1 x9).bind fun q12 =>
        (stB 1 (.int .u8 1) a11.2 (some q12)).bind fun h13 =>
        some ((), h13))
      else
        (some ((), a11.2))) : Option ((Unit) × Heap)).bind fun a14 =>
    some (.inl (((IntKind.i64.wrap (v6 + 1)), ()), a14.2)))
  else
    (some (.inr ((), h7)))
def f_sector_Disk_Crash_L35 (n : Nat) (u0 : Option Addr) (p3 : (Value × AObj)) (x18 : Value) (n19 : Nat) (v20 : Int) (h21 : Heap) : Option (((Int × Unit) × Heap) ⊕ ((Unit) × Heap)) :=
  bif (decide (v20 < (n19 : Int))) then
    ((((ixB 65 x18 v20).bind fun q22 =>
      (ldA 65 h21 (some q22)).bind fun cs23 =>
      bnd ((Heap.new h21 (.cells [(.int .i64 0), (.int .u8 0), (.int .u8 0), (.int .u8 0), (.int .u8 0), (.int .u8 0), (.int .u8 0), (.int .u8 0), (.int .u8 0), (.int .u8 0), (.int .u8 0), (.int .u8 0), (.int .u8 0), (.int .u8 0), (.int .u8 0), (.int .u8 0), (.int .u8 0), (.int .u8 0), (.int .u8 0), (.int .u8 0), (.int .u8 0), (.int .u8 0), (.int .u8 0), (.int .u8 0), (.int .u8 0), (.int .u8 0), (.int .u8 0), (.int .u8 0), (.int .u8 0), (.int .u8 0), (.int .u8 0), (.int .u8 0), (.int .u8 0), (.int .u8 0), (.int .u8 0), (.int .u8 0), (.int .u8 0), (.int .u8 0), (.int .u8 0), (.int .u8 0), (.int .u8 0), (.int .u8 0), (.int .u8 0), (.int .u8 0), (.int .u8 0), (.int .u8 0), (.int .u8 0), (.int .u8 0), (.int .u8 0), (.int .u8 0), (.int .u8 0), (.int .u8 0), (.int .u8 0), (.int .u8 0), (.int .u8 0), (.int .u8 0), (.int .u8 0), (.int .u8 0), (.int .u8 0), (.int .u8 0), (.int .u8 0), (.int .u8 0), (.int .u8 0), (.int .u8 0), (.int .u8 0)] false 0))) fun h24 =>
      (stB 65 (.agg ⟨cs23⟩) h24 (some (nwA h21))).bind fun h25 =>
      (ixB 1 p3.1 v20).bind fun q26 =>
      (ldT (.int .u8) h25 (some q26)).bind fun x27 =>
      bif (decide (x27 = 1)) then
        ((u0).bind fun q28 =>
        (ldT .any h25 (some (fa q28 0))).bind fun x29 =>
        (ldT (.int .i64) h25 (some (fa (nwA h21) 0))).bind fun x30 =>
        (ldA 64 h25 (some (fa (nwA h21) 1))).bind fun cs31 =>
        (ixB 64 x29 x30).bind fun q32 =>
        (stB 64 (.agg ⟨cs31⟩) h25 (some q32)).bind fun h33 =>
        some ((), h33))
      else
        (some ((), h25))) : Option ((Unit) × Heap)).bind fun a34 =>
    some (.inl (((IntKind.i64.wrap (v20 + 1)), ()), a34.2)))
  else
    (some (.inr ((), h21)))
noncomputable def sf_sector_Disk_Crash (n : Nat) : Sf := sfOf []
noncomputable def it_sector_Disk_Crash (n : Nat) : It := itOf []
def f_sector_Disk_Crash (n : Nat) (u0 : Option Addr) (u1 : Value) (h : Heap) : Option ((Int × Int × Unit) × Heap) :=
  bif (Option.isNone u0) then
    (some ((0, (1, ())), h))
  else
    ((u0).bind fun q0 =>
    (ldT .any h (some (fa q0 1))).bind fun x1 =>
    (lenB x1).bind fun n2 =>
    (mkSl (Heap.next h) 1 1 [(.int .u8 0)] (.int .i64 (n2 : Int)) (.int .i64 (n2 : Int))).bind fun p3 =>
    bnd ((Heap.new h (p3.2))) fun h4 =>
    (((lenB u1).bind fun n5 =>
      loopT (fun a => f_sector_Disk_Crash_L15 n u1 p3 n5 a.1.1 a.2) n ((0, ()), h4)) : Option ((Unit) × Heap)).bind fun a16 =>
    (((u0).bind fun q17 =>
      (ldT .any a16.2 (some (fa q17 1))).bind fun x18 =>
      (lenB x18).bind fun n19 =>
      loopT (fun a => f_sector_Disk_Crash_L35 n u0 p3 x18 n19 a.1.1 a.2) n ((0, ()), a16.2)) : Option ((Unit) × Heap)).bind fun a36 =>
    (u0).bind fun q37 =>
    (ldT .any a36.2 (some (fa q37 1))).bind fun x38 =>
    (lenB x38).bind fun n39 =>
    (u0).bind fun q40 =>
    (stB 1 (.slice none 0 0) a36.2 (some (fa q40 1))).bind fun h41 =>
    some (((n39 : Int), (0, ())), h41))
def rs_sector_Disk_Crash : Rs := [(.tmp 4, (.int .i64)), (.tmp 5, (.int .i64))]
def ps_sector_Disk_Crash : List Ty := [.ptr, .any]
theorem e_sector_Disk_Crash (n : Nat) (u0 : Option Addr) (u1 : Value) (h : Heap) : f_sector_Disk_Crash n u0 u1 h = fB (sf_sector_Disk_Crash n) (it_sector_Disk_Crash n) n c2_sector_Disk_Crash rs_sector_Disk_Crash ps_sector_Disk_Crash (u0, (u1, ())) h := by kernel_rfl
noncomputable def s_sector_Disk_Crash (n : Nat) : Sf1 := mkSf ps_sector_Disk_Crash rs_sector_Disk_Crash fun a h => f_sector_Disk_Crash n a.1 a.2.1 h
/- (*wicket/wicketref04.Disk).Crash -/
def c2_r4_Disk_Crash : C2 := .seq (.reg [rg 4 (.move (.const (.int .i64 0))) .i]) <|
 .seq (.reg [rg 10 (.move 0) .ptr, rg 11 (.nilCheck 10) .ptr, rg 12 (.fieldAddr 1 11) .ptr, rg 13 (.load false 1 12) .any, rg 14 (.lenS 13) .i, rg 5 (.move 14) .i]) <|
 .seq (.cutn [] <|
 .seq (.reg [rg 6 (.move (.const (.int .i64 0))) .i]) <|
 .block 0 <|
 .loop [(6, .i)] <|
 .seq (.seq (.reg [rg 15 (.move 6) .i, rg 16 (.move 5) .i, rg 17 (.bin .lss 15 16) .bool]) <|
 .cond 17 (.skip) (.exit 0)) <|
 .seq (.cutn [] <|
 .block 1 <|
 .seq (.reg [rg 7 (.move (.const (.int .i64 0))) .i]) <|
 .block 2 <|
 .loop [(7, .i)] <|
 .seq (.seq (.reg [rg 20 (.move 7) .i, rg 21 (.move 1) .any, rg 22 (.lenS 21) .i, rg 23 (.bin .lss 20 22) .bool]) <|
 .cond 23 (.skip) (.exit 2)) <|
 .seq (.cutn [] <|
 .block 3 <|
 .seq (.reg [rg 26 (.move 1) .any, rg 27 (.move 7) .i, rg 28 (.idxSlice 1 26 27) .ptr, rg 29 (.load false 1 28) .i, rg 30 (.move 6) .i, rg 31 (.bin .eql 29 30) .bool]) <|
 .cond 31 (.seq (.reg [rg 32 (.move 0) .ptr, rg 33 (.nilCheck 32) .ptr, rg 34 (.fieldAddr 1 33) .ptr, rg 35 (.load false 1 34) .any, rg 36 (.move 6) .i, rg 37 (.idxSlice 2 35 36) .ptr, rg 38 (.load true 2 37) .any, rg 8 (.alloc [(.int .i64 0), (.slice none 0 0)]) .ptr, rn (.store 2 8 38) .any]) <|
 .seq (.reg [rg 9 (.move (.const (.int .i64 0))) .i]) <|
 .block 4 <|
 .loop [(9, .i)] <|
 .seq (.seq (.reg [rg 39 (.move 9) .i, rg 40 (.bin .lss 39 (.const (.int .i64 64))) .bool]) <|
 .cond 40 (.skip) (.exit 4)) <|
 .seq (.block 5 <|
 .regd [(⟨0, [], false, ⟨(some 43), .move 0, none⟩⟩, .ptr), (⟨1, [0], false, ⟨(some 44), .nilCheck 43, none⟩⟩, .ptr), (⟨2, [1, 0], false, ⟨(some 45), .fieldAddr 0 44, none⟩⟩, .ptr), (⟨3, [2, 1, 0], false, ⟨(some 46), .load false 1 45, none⟩⟩, .any), (⟨4, [], false, ⟨(some 47), .fieldAddr 0 8, none⟩⟩, .ptr), (⟨5, [4], false, ⟨(some 48), .load false 1 47, none⟩⟩, (.int .i64)), (⟨6, [5, 4], false, ⟨(some 49), .bin .mul 48 (.const (.int .i64 64)), none⟩⟩, (.int .i64)), (⟨7, [], false, ⟨(some 50), .move 9, none⟩⟩, (.int .i64)), (⟨8, [6, 7, 5, 4], false, ⟨(some 51), .bin .add 49 50, none⟩⟩, (.int .i64)), (⟨9, [], false, ⟨(some 52), .fieldAddr 1 8, none⟩⟩, .ptr), (⟨10, [9], false, ⟨(some 53), .load false 1 52, none⟩⟩, .any), (⟨11, [], false, ⟨(some 54), .move 9, none⟩⟩, (.int .i64)), (⟨12, [10, 11, 9], false, ⟨(some 55), .idxSlice 1 53 54, none⟩⟩, .ptr), (⟨13, [12, 10, 11, 9], false, ⟨(some 56), .load false 1 55, none⟩⟩, (.int .u8)), (⟨14, [3, 8, 0, 1, 2, 4, 5, 6, 7, 9, 10, 11, 12, 13], false, ⟨(some 57), .idxSlice 1 46 51, none⟩⟩, .ptr), (⟨15, [14, 13, 0, 1, 2, 3, 4, 5, 6, 7, 8, 9, 10, 11, 12], true, ⟨none, .store 1 57 56, none⟩⟩, .any)]) <|
 .reg [rg 41 (.move 9) .i, rg 42 (.bin .add 41 (.const (.int .i64 1))) .i, rg 9 (.move 42) .i]) (.skip)) <|
 .reg [rg 24 (.move 7) .i, rg 25 (.bin .add 24 (.const (.int .i64 1))) .i, rg 7 (.move 25) .i]) <|
 .reg [rg 18 (.move 6) .i, rg 19 (.bin .add 18 (.const (.int .i64 1))) .i, rg 6 (.move 19) .i]) <|
 .seq (.reg [rg 58 (.move 0) .ptr, rg 59 (.nilCheck 58) .ptr, rg 60 (.fieldAddr 1 59) .ptr, rn (.store 1 60 (.const (.slice none 0 0))) .any]) <|
 .seq (.reg [rg 61 (.move 5) .i, rg 4 (.move 61) .i]) <|
 .ret
def f_r4_Disk_Crash_L26 (n : Nat) (u0 : Option Addr) (h6 : Heap) (v16 : Int) (h17 : Heap) : Option (((Int × Unit) × Heap) ⊕ ((Unit) × Heap)) :=
  bif (decide (v16 < 64)) then
    ((u0).bind fun q18 =>
    (ldT .any h17 (some (fa q18 0))).bind fun x19 =>
    (ldT (.int .i64) h17 (some (fa (nwA h6) 0))).bind fun x20 =>
    (ldT .any h17 (some (fa (nwA h6) 1))).bind fun x21 =>
    (ixB 1 x21 v16).bind fun q22 =>
    (ldT (.int .u8) h17 (some q22)).bind fun x23 =>
    (ixB 1 x19 (IntKind.i64.wrap ((IntKind.i64.wrap (x20 * 64)) + v16))).bind fun q24 =>
    (stB 1 (.int .u8 x23) h17 (some q24)).bind fun h25 =>
    some (.inl (((IntKind.i64.wrap (v16 + 1)), ()), h25)))
  else
    (some (.inr ((), h17)))
def f_r4_Disk_Crash_L28 (n : Nat) (u1 : Value) (u0 : Option Addr) (v3 : Int) (v5 : Int) (h6 : Heap) : Option (((Int × Unit) × Heap) ⊕ ((Unit) × Heap)) :=
  (lenB u1).bind fun n7 =>
  bif (decide (v5 < (n7 : Int))) then
    ((((ixB 1 u1 v5).bind fun q8 =>
      (ldT (.int .i64) h6 (some q8)).bind fun x9 =>
      bif (decide (x9 = v3)) then
        ((u0).bind fun q10 =>
        (ldT .any h6 (some (fa q10 1))).bind fun x11 =>
        (ixB 2 x11 v3).bind fun q12 =>
        (ldA 2 h6 (some q12)).bind fun cs13 =>
        bnd ((Heap.new h6 (.cells [(.int .i64 0), (.slice none 0 0)] false 0))) fun h14 =>
        (stB 2 (.agg ⟨cs13⟩) h14 (some (nwA h6))).bind fun h15 =>
        loopT (fun a => f_r4_Disk_Crash_L26 n u0 h6 a.1.1 a.2) n ((0, ()), h15))
      else
        (some ((), h6))) : Option ((Unit) × Heap)).bind fun a27 =>
    some (.inl (((IntKind.i64.wrap (v5 + 1)), ()), a27.2)))
  else
    (some (.inr ((), h6)))
def f_r4_Disk_Crash_L30 (n : Nat) (u1 : Value) (u0 : Option Addr) (n2 : Nat) (v3 : Int) (h4 : Heap) : Option (((Int × Unit) × Heap) ⊕ ((Unit) × Heap)) :=
  bif (decide (v3 < (n2 : Int))) then
    (((loopT (fun a => f_r4_Disk_Crash_L28 n u1 u0 v3 a.1.1 a.2) n ((0, ()), h4)) : Option ((Unit) × Heap)).bind fun a29 =>
    some (.inl (((IntKind.i64.wrap (v3 + 1)), ()), a29.2)))
  else
    (some (.inr ((), h4)))
noncomputable def sf_r4_Disk_Crash (n : Nat) : Sf := sfOf []
noncomputable def it_r4_Disk_Crash (n : Nat) : It := itOf []
def f_r4_Disk_Crash (n : Nat) (u0 : Option Addr) (u1 : Value) (h : Heap) : Option ((Int × Unit) × Heap) :=
  (u0).bind fun q0 =>
  (ldT .any h (some (fa q0 1))).bind fun x1 =>
  (lenB x1).bind fun n2 =>
  ((loopT (fun a => f_r4_Disk_Crash_L30 n u1 u0 n2 a.1.1 a.2) n ((0, ()), h)) : Option ((Unit) × Heap)).bind fun a31 =>
  (u0).bind fun q32 =>
  (stB 1 (.slice none 0 0) a31.2 (some (fa q32 1))).bind fun h33 =>
  some (((n2 : Int), ()), h33)
def rs_r4_Disk_Crash : Rs := [(.tmp 4, (.int .i64))]
def ps_r4_Disk_Crash : List Ty := [.ptr, .any]
theorem e_r4_Disk_Crash (n : Nat) (u0 : Option Addr) (u1 : Value) (h : Heap) : f_r4_Disk_Crash n u0 u1 h = fB (sf_r4_Disk_Crash n) (it_r4_Disk_Crash n) n c2_r4_Disk_Crash rs_r4_Disk_Crash ps_r4_Disk_Crash (u0, (u1, ())) h := by kernel_rfl
noncomputable def s_r4_Disk_Crash (n : Nat) : Sf1 := mkSf ps_r4_Disk_Crash rs_r4_Disk_Crash fun a h => f_r4_Disk_Crash n a.1 a.2.1 h
/- wicket/home.block -/
def c2_home_block : C2 := .seq (.reg [rg 2 (.move (.const (.bool false))) .bool]) <|
 .seq (.reg [rg 3 (.move 0) .i, rg 4 (.bin .geq 3 (.const (.int .i64 0))) .bool, rg 5 (.move 4) .bool, rp 6 (.move 0) 5 .i, rp 7 (.bin .lss 6 (.const (.int .i64 64))) 5 .bool, rg 8 (.pick 5 7 (.const (.bool false))) .bool, rg 2 (.move 8) .bool]) <|
 .ret
noncomputable def sf_home_block (n : Nat) : Sf := sfOf []
noncomputable def it_home_block (n : Nat) : It := itOf []
def f_home_block (n : Nat) (u0 : Int) (h : Heap) : Option ((Bool × Unit) × Heap) :=
  bif (decide (0 ≤ u0)) then
    (some (((decide (u0 < 64)), ()), h))
  else
    (some ((false, ()), h))
def rs_home_block : Rs := [(.tmp 2, .bool)]
def ps_home_block : List Ty := [(.int .i64)]
theorem e_home_block (n : Nat) (u0 : Int) (h : Heap) : f_home_block n u0 h = fB (sf_home_block n) (it_home_block n) n c2_home_block rs_home_block ps_home_block (u0, ()) h := by kernel_rfl
noncomputable def s_home_block (n : Nat) : Sf1 := mkSf ps_home_block rs_home_block fun a h => f_home_block n a.1 h
/- wicket/octet.Pad -/
def c2_octet_Pad : C2 := .seq (.reg [rg 4 (.move (.const (.slice none 0 0))) .any, rg 5 (.move (.const (.int .i64 0))) .i]) <|
 .seq (.block 0 <|
 .seq (.cutn [(6, .bool)] <|
 .reg [rg 7 (.move 1) .i, rg 8 (.bin .lss 7 (.const (.int .i64 0))) .bool, rg 9 (.move 8) .bool, rq 10 (.move 1) 9 .i, rq 11 (.bin .gtr 10 (.const (.int .i64 64))) 9 .bool, rg 12 (.pick 9 (.const (.bool true)) 11) .bool, rg 6 (.move 12) .bool]) <|
 .cond 6 (.seq (.reg [rg 4 (.move (.const (.slice none 0 0))) .any, rg 5 (.move (.const (.int .i64 2))) .i]) <|
 .ret) (.seq (.reg [rg 14 (.move 0) .any, rg 15 (.lenS 14) .i, rg 16 (.move 1) .i, rg 17 (.bin .gtr 15 16) .bool, rg 13 (.move 17) .bool]) <|
 .cond 13 (.seq (.reg [rg 4 (.move (.const (.slice none 0 0))) .any, rg 5 (.move (.const (.int .i64 10))) .i]) <|
 .ret) (.skip))) <|
 .seq (.reg [rg 18 (.move 0) .any, rg 19 (.move 1) .i, rg 20 (.move 0) .any, rg 21 (.lenS 20) .i, rg 22 (.bin .sub 19 21) .i, rg 23 (.makeSlice 1 1 [(.int .u8 0)] 22 22) .any, rg 24 (.buildSlice 2 1 [(.slice none 0 0), (.slice none 0 0)] [(0, 1, 18), (1, 1, 23)]) .any, rg 25 (.call k_octet_Join [24]) .any, rg 4 (.move 25) .any, rg 5 (.move (.const (.int .i64 0))) .i]) <|
 .ret
noncomputable def sf_octet_Pad (n : Nat) : Sf := sfOf [(k_octet_Join, s_octet_Join n)]
noncomputable def it_octet_Pad (n : Nat) : It := itOf []
def f_octet_Pad (n : Nat) (u0 : Value) (u1 : Int) (h : Heap) : Option ((Value × Int × Unit) × Heap) :=
  ((bif (decide (u1 < 0)) then
      (some ((true, ()), h))
    else
      (some (((decide (64 < u1)), ()), h))) : Option ((Bool × Unit) × Heap)).bind fun a0 =>
  bif a0.1.1 then
    (some (((.slice none 0 0), (2, ())), a0.2))
  else
    ((lenB u0).bind fun n1 =>
    bif (decide (u1 < (n1 : Int))) then
      (some (((.slice none 0 0), (10, ())), a0.2))
    else
      ((lenB u0).bind fun n2 =>
      (mkSl (Heap.next a0.2) 1 1 [(.int .u8 0)] (.int .i64 (IntKind.i64.wrap (u1 - (n2 : Int)))) (.int .i64 (IntKind.i64.wrap (u1 - (n2 : Int))))).bind fun p3 =>
      bnd ((Heap.new a0.2 (p3.2))) fun h4 =>
      (fillL [(.slice none 0 0), (.slice none 0 0)] [(0, 1, u0), (1, 1, p3.1)]).bind fun cs5 =>
      bnd ((Heap.new h4 (.cells cs5 false 1))) fun h6 =>
      (f_octet_Join n (.slice (some ⟨Heap.next h4, 0, some 0⟩) 2 2) h6).bind fun p7 =>
      bif !isTuple p7.1.1 then
        (some ((p7.1.1, (0, ())), p7.2))
      else
        (none)))
def rs_octet_Pad : Rs := [(.tmp 4, .any), (.tmp 5, (.int .i64))]
def ps_octet_Pad : List Ty := [.any, (.int .i64)]
theorem e_octet_Pad (n : Nat) (u0 : Value) (u1 : Int) (h : Heap) : f_octet_Pad n u0 u1 h = fB (sf_octet_Pad n) (it_octet_Pad n) n c2_octet_Pad rs_octet_Pad ps_octet_Pad (u0, (u1, ())) h := by kernel_rfl
noncomputable def s_octet_Pad (n : Nat) : Sf1 := mkSf ps_octet_Pad rs_octet_Pad fun a h => f_octet_Pad n a.1 a.2.1 h
/- wicket/wicketref08.number -/
def c2_r8_number : C2 := .seq (.reg [rg 4 (.move (.const (.slice none 0 0))) .any]) <|
 .seq (.reg [rg 5 (.move (.const (.slice none 0 0))) .any]) <|
 .seq (.seq (.reg [rg 6 (.move (.const (.int .i64 0))) .i]) <|
 .block 0 <|
 .loop [(0, (.int .u64)), (5, .any), (6, .i)] <|
 .seq (.seq (.reg [rg 7 (.move 6) .i, rg 8 (.move 1) .i, rg 9 (.bin .lss 7 8) .bool]) <|
 .cond 9 (.skip) (.exit 0)) <|
 .seq (.block 1 <|
 .seq (.reg [rg 12 (.move 5) .any, rg 13 (.move 0) (.int .u64), rg 14 (.bin .rem 13 (.const (.int .u64 256))) (.int .u64), rg 15 (.conv .u8 14) .u, rg 16 (.buildSlice 1 1 [(.int .u8 0)] [(0, 1, 15)]) .any, rg 17 (.append 1 1 12 16) .any, rg 5 (.move 17) .any]) <|
 .reg [rg 18 (.move 0) (.int .u64), rg 19 (.bin .quo 18 (.const (.int .u64 256))) (.int .u64), rg 0 (.move 19) (.int .u64)]) <|
 .reg [rg 10 (.move 6) .i, rg 11 (.bin .add 10 (.const (.int .i64 1))) .i, rg 6 (.move 11) .i]) <|
 .seq (.reg [rg 20 (.move 5) .any, rg 4 (.move 20) .any]) <|
 .ret
def f_r8_number_L7 (n : Nat) (u1 : Int) (v0 : Int) (v1 : Value) (v2 : Int) (h3 : Heap) : Option (((Int × Value × Int × Unit) × Heap) ⊕ ((Value × Unit) × Heap)) :=
  bif (decide (v2 < u1)) then
    ((fillL [(.int .u8 0)] [(0, 1, (.int .u8 (IntKind.u8.wrap ((Int.tmod v0 256)))))]).bind fun cs4 =>
    bnd ((Heap.new h3 (.cells cs4 false 1))) fun h5 =>
    (appendK h5 1 1 v1 (.slice (some ⟨Heap.next h3, 0, some 0⟩) 1 1)).bind fun p6 =>
    some (.inl (((IntKind.u64.wrap (Int.tdiv v0 256)), (p6.1, ((IntKind.i64.wrap (v2 + 1)), ()))), p6.2)))
  else
    (Option.map Sum.inr (bif !isTuple v1 then
      (some ((v1, ()), h3))
    else
      (none)))
noncomputable def sf_r8_number (n : Nat) : Sf := sfOf []
noncomputable def it_r8_number (n : Nat) : It := itOf []
def f_r8_number (n : Nat) (u0 : Int) (u1 : Int) (h : Heap) : Option ((Value × Unit) × Heap) :=
  loopT (fun a => f_r8_number_L7 n u1 a.1.1 a.1.2.1 a.1.2.2.1 a.2) n ((u0, ((.slice none 0 0), (0, ()))), h)
def rs_r8_number : Rs := [(.tmp 4, .any)]
def ps_r8_number : List Ty := [(.int .u64), (.int .i64)]
theorem e_r8_number (n : Nat) (u0 : Int) (u1 : Int) (h : Heap) : f_r8_number n u0 u1 h = fB (sf_r8_number n) (it_r8_number n) n c2_r8_number rs_r8_number ps_r8_number (u0, (u1, ())) h := by kernel_rfl
noncomputable def s_r8_number (n : Nat) : Sf1 := mkSf ps_r8_number rs_r8_number fun a h => f_r8_number n a.1 a.2.1 h
/- slices.Clone[[]byte,byte] -/
def c2_slices_Clone_byte_byte : C2 := .seq (.reg [rg 2 (.move (.const (.slice none 0 0))) .any]) <|
 .seq (.seq (.reg [rg 3 (.move 0) .any, rg 4 (.eqv false .slice 3 (.const (.slice none 0 0))) .bool]) <|
 .cond 4 (.seq (.reg [rg 2 (.move (.const (.slice none 0 0))) .any]) <|
 .ret) (.skip)) <|
 .seq (.reg [rg 5 (.buildSlice 0 1 [] []) .any, rg 6 (.move 0) .any, rg 7 (.append 1 1 5 6) .any, rg 2 (.move 7) .any]) <|
 .ret
noncomputable def sf_slices_Clone_byte_byte (n : Nat) : Sf := sfOf []
noncomputable def it_slices_Clone_byte_byte (n : Nat) : It := itOf []
def f_slices_Clone_byte_byte (n : Nat) (u0 : Value) (h : Heap) : Option ((Value × Unit) × Heap) :=
  (eqVals h .slice u0 (.slice none 0 0)).bind fun b0 =>
  bif b0 then
    (some (((.slice none 0 0), ()), h))
  else
    ((fillL [] []).bind fun cs1 =>
    bnd ((Heap.new h (.cells cs1 false 1))) fun h2 =>
    (appendK h2 1 1 (.slice (some ⟨Heap.next h, 0, some 0⟩) 0 0) u0).bind fun p3 =>
    bif !isTuple p3.1 then
      (some ((p3.1, ()), p3.2))
    else
      (none))
def rs_slices_Clone_byte_byte : Rs := [(.tmp 2, .any)]
def ps_slices_Clone_byte_byte : List Ty := [.any]
theorem e_slices_Clone_byte_byte (n : Nat) (u0 : Value) (h : Heap) : f_slices_Clone_byte_byte n u0 h = fB (sf_slices_Clone_byte_byte n) (it_slices_Clone_byte_byte n) n c2_slices_Clone_byte_byte rs_slices_Clone_byte_byte ps_slices_Clone_byte_byte (u0, ()) h := by kernel_rfl
noncomputable def s_slices_Clone_byte_byte (n : Nat) : Sf1 := mkSf ps_slices_Clone_byte_byte rs_slices_Clone_byte_byte fun a h => f_slices_Clone_byte_byte n a.1 h
/- (*wicket/sector.Disk).asked -/
def c2_sector_Disk_asked : C2 := .seq (.reg [rg 4 (.move (.const (.int .i64 0))) .i]) <|
 .seq (.block 0 <|
 .seq (.reg [rg 6 (.move 0) .ptr, rg 7 (.eqv false .ptr 6 (.const (.pointer none))) .bool, rg 5 (.move 7) .bool]) <|
 .cond 5 (.seq (.reg [rg 4 (.move (.const (.int .i64 1))) .i]) <|
 .ret) (.seq (.cutn [(8, .bool)] <|
 .reg [rg 9 (.move 1) .i, rg 10 (.bin .lss 9 (.const (.int .i64 0))) .bool, rg 11 (.move 10) .bool, rq 12 (.move 1) 11 .i, rq 13 (.move 0) 11 .ptr, rq 14 (.nilCheck 13) 11 .ptr, rq 15 (.fieldAddr 0 14) 11 .ptr, rq 16 (.load false 1 15) 11 .any, rq 17 (.lenS 16) 11 .i, rq 18 (.bin .geq 12 17) 11 .bool, rg 19 (.pick 11 (.const (.bool true)) 18) .bool, rg 8 (.move 19) .bool]) <|
 .cond 8 (.seq (.reg [rg 4 (.move (.const (.int .i64 40))) .i]) <|
 .ret) (.skip))) <|
 .seq (.reg [rg 4 (.move (.const (.int .i64 0))) .i]) <|
 .ret
noncomputable def sf_sector_Disk_asked (n : Nat) : Sf := sfOf []
noncomputable def it_sector_Disk_asked (n : Nat) : It := itOf []
def f_sector_Disk_asked (n : Nat) (u0 : Option Addr) (u1 : Int) (h : Heap) : Option ((Int × Unit) × Heap) :=
  bif (Option.isNone u0) then
    (some ((1, ()), h))
  else
    (((bif (decide (u1 < 0)) then
        (some ((true, ()), h))
      else
        ((u0).bind fun q0 =>
        (ldT .any h (some (fa q0 0))).bind fun x1 =>
        (lenB x1).bind fun n2 =>
        some (((decide ((n2 : Int) ≤ u1)), ()), h))) : Option ((Bool × Unit) × Heap)).bind fun a3 =>
    bif a3.1.1 then
      (some ((40, ()), a3.2))
    else
      (some ((0, ()), a3.2)))
def rs_sector_Disk_asked : Rs := [(.tmp 4, (.int .i64))]
def ps_sector_Disk_asked : List Ty := [.ptr, (.int .i64)]
theorem e_sector_Disk_asked (n : Nat) (u0 : Option Addr) (u1 : Int) (h : Heap) : f_sector_Disk_asked n u0 u1 h = fB (sf_sector_Disk_asked n) (it_sector_Disk_asked n) n c2_sector_Disk_asked rs_sector_Disk_asked ps_sector_Disk_asked (u0, (u1, ())) h := by kernel_rfl
noncomputable def s_sector_Disk_asked (n : Nat) : Sf1 := mkSf ps_sector_Disk_asked rs_sector_Disk_asked fun a h => f_sector_Disk_asked n a.1 a.2.1 h
/- (*wicket/wicketref04.Disk).Len -/
def c2_r4_Disk_Len : C2 := .seq (.reg [rg 2 (.move (.const (.int .i64 0))) .i]) <|
 .seq (.reg [rg 3 (.move 0) .ptr, rg 4 (.nilCheck 3) .ptr, rg 5 (.fieldAddr 0 4) .ptr, rg 6 (.load false 1 5) .any, rg 7 (.lenS 6) .i, rg 8 (.bin .quo 7 (.const (.int .i64 64))) .i, rg 2 (.move 8) .i]) <|
 .ret
noncomputable def sf_r4_Disk_Len (n : Nat) : Sf := sfOf []
noncomputable def it_r4_Disk_Len (n : Nat) : It := itOf []
def f_r4_Disk_Len (n : Nat) (u0 : Option Addr) (h : Heap) : Option ((Int × Unit) × Heap) :=
  (u0).bind fun q0 =>
  (ldT .any h (some (fa q0 0))).bind fun x1 =>
  (lenB x1).bind fun n2 =>
  some (((IntKind.i64.wrap (Int.tdiv (n2 : Int) 64)), ()), h)
def rs_r4_Disk_Len : Rs := [(.tmp 2, (.int .i64))]
def ps_r4_Disk_Len : List Ty := [.ptr]
theorem e_r4_Disk_Len (n : Nat) (u0 : Option Addr) (h : Heap) : f_r4_Disk_Len n u0 h = fB (sf_r4_Disk_Len n) (it_r4_Disk_Len n) n c2_r4_Disk_Len rs_r4_Disk_Len ps_r4_Disk_Len (u0, ()) h := by kernel_rfl
noncomputable def s_r4_Disk_Len (n : Nat) : Sf1 := mkSf ps_r4_Disk_Len rs_r4_Disk_Len fun a h => f_r4_Disk_Len n a.1 h
/- wicket/octet.may -/
def c2_octet_may : C2 := .seq (.reg [rg 2 (.move (.const (.bool false))) .bool]) <|
 .seq (.reg [rg 3 (.move 0) .i, rg 4 (.bin .geq 3 (.const (.int .i64 1))) .bool, rg 5 (.move 4) .bool, rp 6 (.move 0) 5 .i, rp 7 (.bin .leq 6 (.const (.int .i64 8))) 5 .bool, rg 8 (.pick 5 7 (.const (.bool false))) .bool, rg 2 (.move 8) .bool]) <|
 .ret
noncomputable def sf_octet_may (n : Nat) : Sf := sfOf []
noncomputable def it_octet_may (n : Nat) : It := itOf []
def f_octet_may (n : Nat) (u0 : Int) (h : Heap) : Option ((Bool × Unit) × Heap) :=
  bif (decide (1 ≤ u0)) then
    (some (((decide (u0 ≤ 8)), ()), h))
  else
    (some ((false, ()), h))
def rs_octet_may : Rs := [(.tmp 2, .bool)]
def ps_octet_may : List Ty := [(.int .i64)]
theorem e_octet_may (n : Nat) (u0 : Int) (h : Heap) : f_octet_may n u0 h = fB (sf_octet_may n) (it_octet_may n) n c2_octet_may rs_octet_may ps_octet_may (u0, ()) h := by kernel_rfl
noncomputable def s_octet_may (n : Nat) : Sf1 := mkSf ps_octet_may rs_octet_may fun a h => f_octet_may n a.1 h
/- wicket/sum.push -/
def c2_sum_push : C2 := .seq (.reg [rg 4 (.move (.const (.int .u32 0))) (.int .u32)]) <|
 .seq (.reg [rg 5 (.move 0) (.int .u32), rg 6 (.move 1) .u, rg 7 (.conv .u32 6) (.int .u32), rg 8 (.bin .xor 5 7) (.int .u32), rg 0 (.move 8) (.int .u32)]) <|
 .seq (.reg [rg 9 (.move 0) (.int .u32), rg 10 (.bin .and 9 (.const (.int .u32 15))) (.int .u32), rg 11 (.idxArr 16 1 (.global 1) 10) .ptr, rg 12 (.load false 1 11) (.int .u32), rg 13 (.move 0) (.int .u32), rg 14 (.bin .shr 13 (.const (.int .u64 4))) (.int .u32), rg 15 (.bin .xor 12 14) (.int .u32), rg 0 (.move 15) (.int .u32)]) <|
 .seq (.reg [rg 16 (.move 0) (.int .u32), rg 17 (.bin .and 16 (.const (.int .u32 15))) (.int .u32), rg 18 (.idxArr 16 1 (.global 1) 17) .ptr, rg 19 (.load false 1 18) (.int .u32), rg 20 (.move 0) (.int .u32), rg 21 (.bin .shr 20 (.const (.int .u64 4))) (.int .u32), rg 22 (.bin .xor 19 21) (.int .u32), rg 4 (.move 22) (.int .u32)]) <|
 .ret
noncomputable def sf_sum_push (n : Nat) : Sf := sfOf []
noncomputable def it_sum_push (n : Nat) : It := itOf []
def f_sum_push (n : Nat) (u0 : Int) (u1 : Int) (h : Heap) : Option ((Int × Unit) × Heap) :=
  (bitB .xor .u32 u0 .u32 (IntKind.u32.wrap (u1))).bind fun x0 =>
  (bitB .and .u32 x0 .u32 15).bind fun x1 =>
  (ixA 16 1 (some ⟨1, 0, none⟩) x1).bind fun q2 =>
  (ldT (.int .u32) h (some q2)).bind fun x3 =>
  (bitB .shr .u32 x0 .u64 4).bind fun x4 =>
  (bitB .xor .u32 x3 .u32 x4).bind fun x5 =>
  (bitB .and .u32 x5 .u32 15).bind fun x6 =>
  (ixA 16 1 (some ⟨1, 0, none⟩) x6).bind fun q7 =>
  (ldT (.int .u32) h (some q7)).bind fun x8 =>
  (bitB .shr .u32 x5 .u64 4).bind fun x9 =>
  (bitB .xor .u32 x8 .u32 x9).bind fun x10 =>
  some ((x10, ()), h)
def rs_sum_push : Rs := [(.tmp 4, (.int .u32))]
def ps_sum_push : List Ty := [(.int .u32), (.int .u8)]
theorem e_sum_push (n : Nat) (u0 : Int) (u1 : Int) (h : Heap) : f_sum_push n u0 u1 h = fB (sf_sum_push n) (it_sum_push n) n c2_sum_push rs_sum_push ps_sum_push (u0, (u1, ())) h := by kernel_rfl
noncomputable def s_sum_push (n : Nat) : Sf1 := mkSf ps_sum_push rs_sum_push fun a h => f_sum_push n a.1 a.2.1 h
/- slices.Backward[[]wicket/sector.waiting,wicket/sector.waiting]$1 -/
def c2_slices_Backward_sector_waiting_sector_waiting_1 : C2 := .seq (.reg [rg 4 (.load false 1 1) .any, rg 5 (.lenS 4) .i, rg 6 (.bin .sub 5 (.const (.int .i64 1))) .i, rg 3 (.move 6) .i]) <|
 .block 0 <|
 .loop [(3, .i)] <|
 .seq (.seq (.reg [rg 7 (.move 3) .i, rg 8 (.bin .geq 7 (.const (.int .i64 0))) .bool]) <|
 .cond 8 (.skip) (.exit 0)) <|
 .seq (.block 1 <|
 .seq (.reg [rg 11 (.move 0) .any, rg 12 (.move 3) .i, rg 13 (.load false 1 1) .any, rg 14 (.move 3) .i, rg 15 (.idxSlice 65 13 14) .ptr, rg 16 (.load true 65 15) .any, rg 17 (.callv 11 [12, 16]) .bool, rg 18 (.un .not 17) .bool]) <|
 .cond 18 (.ret) (.skip)) <|
 .reg [rg 9 (.move 3) .i, rg 10 (.bin .sub 9 (.const (.int .i64 1))) .i, rg 3 (.move 10) .i]
def f_slices_Backward_sector_waiting_sector_waiting_1_L8 {V : Type} (hp : V → Heap) (up : V → Heap → V) (y : (Int × Value × Unit) → V → Option (Bool × V)) (n : Nat) (u0 : Option Addr) (v2 : Int) (w3 : V) : Option (((Int × Unit) × V) ⊕ (V)) :=
  bif (decide (0 ≤ v2)) then
    ((ldT .any (hp w3) u0).bind fun x4 =>
    (ixB 65 x4 v2).bind fun q5 =>
    (ldA 65 (hp w3) (some q5)).bind fun cs6 =>
    (y (v2, ((.agg ⟨cs6⟩), ())) w3).bind fun p7 =>
    bif (!p7.1) then
      (some (.inr p7.2))
    else
      (some (.inl (((IntKind.i64.wrap (v2 - 1)), ()), p7.2))))
  else
    (some (.inr w3))
noncomputable def sf_slices_Backward_sector_waiting_sector_waiting_1 (n : Nat) : Sf := sfOf []
noncomputable def it_slices_Backward_sector_waiting_sector_waiting_1 (n : Nat) : It := itOf []
def f_slices_Backward_sector_waiting_sector_waiting_1 {V : Type} (hp : V → Heap) (up : V → Heap → V) (y : (Int × Value × Unit) → V → Option (Bool × V)) (n : Nat) (u0 : Option Addr) (w : V) : Option V :=
  (ldT .any (hp w) u0).bind fun x0 =>
  (lenB x0).bind fun n1 =>
  loopT (fun a => f_slices_Backward_sector_waiting_sector_waiting_1_L8 hp up y n u0 a.1.1 a.2) n (((IntKind.i64.wrap ((n1 : Int) - 1)), ()), w)
theorem e_slices_Backward_sector_waiting_sector_waiting_1 {V : Type} (hp : V → Heap) (up : V → Heap → V) (y : (Int × Value × Unit) → V → Option (Bool × V)) (n : Nat) (u0 : Option Addr) (w : V) : f_slices_Backward_sector_waiting_sector_waiting_1 hp up y n u0 w = fI (sf_slices_Backward_sector_waiting_sector_waiting_1 n) (it_slices_Backward_sector_waiting_sector_waiting_1 n) n c2_slices_Backward_sector_waiting_sector_waiting_1 [] [.ptr] [(.int .i64), .any] hp up y () (u0, ()) w := by kernel_rfl
noncomputable def i_slices_Backward_sector_waiting_sector_waiting_1 (n : Nat) : It1 := mkIt [] [.ptr] [(.int .i64), .any] fun hp up y _ a2 v => f_slices_Backward_sector_waiting_sector_waiting_1 hp up y n a2.1 v
/- wicket/super.within -/
def c2_super_within : C2 := .seq (.reg [rg 4 (.move (.const (.bool false))) .bool]) <|
 .seq (.reg [rg 5 (.move 0) .i, rg 6 (.bin .geq 5 (.const (.int .i64 1))) .bool, rg 7 (.move 6) .bool, rp 8 (.move 0) 7 .i, rp 9 (.move 1) 7 .i, rp 10 (.bin .leq 8 9) 7 .bool, rg 11 (.pick 7 10 (.const (.bool false))) .bool, rg 4 (.move 11) .bool]) <|
 .ret
noncomputable def sf_super_within (n : Nat) : Sf := sfOf []
noncomputable def it_super_within (n : Nat) : It := itOf []
def f_super_within (n : Nat) (u0 : Int) (u1 : Int) (h : Heap) : Option ((Bool × Unit) × Heap) :=
  bif (decide (1 ≤ u0)) then
    (some (((decide (u0 ≤ u1)), ()), h))
  else
    (some ((false, ()), h))
def rs_super_within : Rs := [(.tmp 4, .bool)]
def ps_super_within : List Ty := [(.int .i64), (.int .i64)]
theorem e_super_within (n : Nat) (u0 : Int) (u1 : Int) (h : Heap) : f_super_within n u0 u1 h = fB (sf_super_within n) (it_super_within n) n c2_super_within rs_super_within ps_super_within (u0, (u1, ())) h := by kernel_rfl
noncomputable def s_super_within (n : Nat) : Sf1 := mkSf ps_super_within rs_super_within fun a h => f_super_within n a.1 a.2.1 h
/- wicket/wicketref02.Push -/
def c2_r2_Push : C2 := .seq (.reg [rg 4 (.move (.const (.int .u32 0))) (.int .u32)]) <|
 .seq (.reg [rg 7 (.move 0) (.int .u32), rg 8 (.move 1) .u, rg 9 (.conv .u32 8) (.int .u32), rg 10 (.bin .xor 7 9) (.int .u32), rg 0 (.move 10) (.int .u32)]) <|
 .seq (.seq (.reg [rg 5 (.move (.const (.int .i64 0))) .i]) <|
 .block 0 <|
 .loop [(0, (.int .u32)), (5, .i)] <|
 .seq (.seq (.reg [rg 11 (.move 5) .i, rg 12 (.bin .lss 11 (.const (.int .i64 8))) .bool]) <|
 .cond 12 (.skip) (.exit 0)) <|
 .seq (.cutn [(0, (.int .u32))] <|
 .block 1 <|
 .seq (.reg [rg 15 (.move 0) (.int .u32), rg 16 (.bin .rem 15 (.const (.int .u32 2))) (.int .u32), rg 17 (.bin .eql 16 (.const (.int .u32 1))) .bool, rg 6 (.move 17) .bool]) <|
 .seq (.reg [rg 18 (.move 0) (.int .u32), rg 19 (.bin .quo 18 (.const (.int .u32 2))) (.int .u32), rg 0 (.move 19) (.int .u32)]) <|
 .seq (.reg [rg 20 (.move 6) .bool]) <|
 .cond 20 (.reg [rg 21 (.move 0) (.int .u32), rg 22 (.bin .xor 21 (.const (.int .u32 3988292384))) (.int .u32), rg 0 (.move 22) (.int .u32)]) (.skip)) <|
 .reg [rg 13 (.move 5) .i, rg 14 (.bin .add 13 (.const (.int .i64 1))) .i, rg 5 (.move 14) .i]) <|
 .seq (.reg [rg 23 (.move 0) (.int .u32), rg 4 (.move 23) (.int .u32)]) <|
 .ret
def f_r2_Push_L6 (n : Nat) (v1 : Int) (v2 : Int) (h3 : Heap) : Option (((Int × Int × Unit) × Heap) ⊕ ((Int × Unit) × Heap)) :=
  bif (decide (v2 < 8)) then
    (((bif (decide ((Int.tmod v1 2) = 1)) then
        ((bitB .xor .u32 (IntKind.u32.wrap (Int.tdiv v1 2)) .u32 3988292384).bind fun x4 =>
        some ((x4, ()), h3))
      else
        (some (((IntKind.u32.wrap (Int.tdiv v1 2)), ()), h3))) : Option ((Int × Unit) × Heap)).bind fun a5 =>
    some (.inl ((a5.1.1, ((IntKind.i64.wrap (v2 + 1)), ())), a5.2)))
  else
    (some (.inr ((v1, ()), h3)))
noncomputable def sf_r2_Push (n : Nat) : Sf := sfOf []
noncomputable def it_r2_Push (n : Nat) : It := itOf []
def f_r2_Push (n : Nat) (u0 : Int) (u1 : Int) (h : Heap) : Option ((Int × Unit) × Heap) :=
  (bitB .xor .u32 u0 .u32 (IntKind.u32.wrap (u1))).bind fun x0 =>
  loopT (fun a => f_r2_Push_L6 n a.1.1 a.1.2.1 a.2) n ((x0, (0, ())), h)
def rs_r2_Push : Rs := [(.tmp 4, (.int .u32))]
def ps_r2_Push : List Ty := [(.int .u32), (.int .u8)]
theorem e_r2_Push (n : Nat) (u0 : Int) (u1 : Int) (h : Heap) : f_r2_Push n u0 u1 h = fB (sf_r2_Push n) (it_r2_Push n) n c2_r2_Push rs_r2_Push ps_r2_Push (u0, (u1, ())) h := by kernel_rfl
noncomputable def s_r2_Push (n : Nat) : Sf1 := mkSf ps_r2_Push rs_r2_Push fun a h => f_r2_Push n a.1 a.2.1 h
/- (*wicket/sector.Disk).Waiting -/
def c2_sector_Disk_Waiting : C2 := .seq (.reg [rg 2 (.move (.const (.slice none 0 0))) .any]) <|
 .seq (.seq (.reg [rg 6 (.move 0) .ptr, rg 7 (.eqv false .ptr 6 (.const (.pointer none))) .bool]) <|
 .cond 7 (.seq (.reg [rg 2 (.move (.const (.slice none 0 0))) .any]) <|
 .ret) (.skip)) <|
 .seq (.reg [rg 3 (.move (.const (.slice none 0 0))) .any]) <|
 .seq (.seq (.reg [rg 8 (.move 0) .ptr, rg 9 (.nilCheck 8) .ptr, rg 10 (.fieldAddr 1 9) .ptr, rg 11 (.load false 1 10) .any, rg 12 (.lenS 11) .i, rg 13 (.move (.const (.int .i64 0))) .i]) <|
 .block 0 <|
 .loop [(3, .any), (13, .i)] <|
 .seq (.reg [rg 14 (.bin .lss 13 12) .any]) <|
 .seq (.cond 14 (.skip) (.exit 0)) <|
 .seq (.block 1 <|
 .seq (.reg [rg 15 (.idxSlice 65 11 13) .ptr, rg 16 (.load true 65 15) .any, rg 5 (.alloc [(.int .i64 0), (.int .u8 0), (.int .u8 0), (.int .u8 0), (.int .u8 0), (.int .u8 0), (.int .u8 0), (.int .u8 0), (.int .u8 0), (.int .u8 0), (.int .u8 0), (.int .u8 0), (.int .u8 0), (.int .u8 0), (.int .u8 0), (.int .u8 0), (.int .u8 0), (.int .u8 0), (.int .u8 0), (.int .u8 0), (.int .u8 0), (.int .u8 0), (.int .u8 0), (.int .u8 0), (.int .u8 0), (.int .u8 0), (.int .u8 0), (.int .u8 0), (.int .u8 0), (.int .u8 0), (.int .u8 0), (.int .u8 0), (.int .u8 0), (.int .u8 0), (.int .u8 0), (.int .u8 0), (.int .u8 0), (.int .u8 0), (.int .u8 0), (.int .u8 0), (.int .u8 0), (.int .u8 0), (.int .u8 0), (.int .u8 0), (.int .u8 0), (.int .u8 0), (.int .u8 0), (.int .u8 0), (.int .u8 0), (.int .u8 0), (.int .u8 0), (.int .u8 0), (.int .u8 0), (.int .u8 0), (.int .u8 0), (.int .u8 0), (.int .u8 0), (.int .u8 0), (.int .u8 0), (.int .u8 0), (.int .u8 0), (.int .u8 0), (.int .u8 0), (.int .u8 0), (.int .u8 0)]) .ptr, rn (.store 65 5 16) .any]) <|
 .regd [(⟨0, [], false, ⟨(some 17), .move 3, none⟩⟩, .any), (⟨1, [], false, ⟨(some 18), .fieldAddr 0 5, none⟩⟩, .ptr), (⟨2, [1], false, ⟨(some 19), .load false 1 18, none⟩⟩, (.int .i64)), (⟨3, [], false, ⟨(some 20), .fieldAddr 1 5, none⟩⟩, .ptr), (⟨4, [3], false, ⟨(some 21), .sliceArr 64 1 20 none none none, none⟩⟩, .any), (⟨5, [4, 3], true, ⟨(some 22), .call k_slices_Clone_byte_byte [21], none⟩⟩, .any), (⟨6, [2, 5, 1, 4, 3], false, ⟨(some 23), .build [(.int .i64 0), (.slice none 0 0)] [(0, 1, 19), (1, 1, 22)], none⟩⟩, .any), (⟨7, [6, 2, 5, 1, 4, 3], false, ⟨(some 24), .buildSlice 1 2 [(.int .i64 0), (.slice none 0 0)] [(0, 2, 23)], none⟩⟩, .any), (⟨8, [0, 7, 5, 6, 2, 1, 4, 3], true, ⟨(some 25), .append 32 2 17 24, none⟩⟩, .any), (⟨9, [8, 0, 1, 2, 3, 4, 5, 6, 7], true, ⟨(some 3), .move 25, none⟩⟩, .any)]) <|
 .reg [rg 26 (.bin .add 13 (.const (.int .i64 1))) .i, rg 13 (.move 26) .i]) <|
 .seq (.reg [rg 27 (.move 3) .any, rg 2 (.move 27) .any]) <|
 .ret
def f_sector_Disk_Waiting_L18 (n : Nat) (x1 : Value) (n2 : Nat) (v3 : Value) (v4 : Int) (h5 : Heap) : Option (((Value × Int × Unit) × Heap) ⊕ ((Value × Unit) × Heap)) :=
  bif (decide (v4 < (n2 : Int))) then
    ((ixB 65 x1 v4).bind fun q6 =>
    (ldA 65 h5 (some q6)).bind fun cs7 =>
    bnd ((Heap.new h5 (.cells [(.int .i64 0), (.int .u8 0), (.int .u8 0), (.int .u8 0), (.int .u8 0), (.int .u8 0), (.int .u8 0), (.int .u8 0), (.int .u8 0), (.int .u8 0), (.int .u8 0), (.int .u8 0), (.int .u8 0), (.int .u8 0), (.int .u8 0), (.int .u8 0), (.int .u8 0), (.int .u8 0), (.int .u8 0), (.int .u8 0), (.int .u8 0), (.int .u8 0), (.int .u8 0), (.int .u8 0), (.int .u8 0), (.int .u8 0), (.int .u8 0), (.int .u8 0), (.int .u8 0), (.int .u8 0), (.int .u8 0), (.int .u8 0), (.int .u8 0), (.int .u8 0), (.int .u8 0), (.int .u8 0), (.int .u8 0), (.int .u8 0), (.int .u8 0), (.int .u8 0), (.int .u8 0), (.int .u8 0), (.int .u8 0), (.int .u8 0), (.int .u8 0), (.int .u8 0), (.int .u8 0), (.int .u8 0), (.int .u8 0), (.int .u8 0), (.int .u8 0), (.int .u8 0), (.int .u8 0), (.int .u8 0), (.int .u8 0), (.int .u8 0), (.int .u8 0), (.int .u8 0), (.int .u8 0), (.int .u8 0), (.int .u8 0), (.int .u8 0), (.int .u8 0), (.int .u8 0), (.int .u8 0)] false 0))) fun h8 =>
    (stB 65 (.agg ⟨cs7⟩) h8 (some (nwA h5))).bind fun h9 =>
    (ldT (.int .i64) h9 (some (fa (nwA h5) 0))).bind fun x10 =>
    (sliceArrK h9 64 1 none none (.pointer (some (fa (nwA h5) 1)))).bind fun p11 =>
    (f_slices_Clone_byte_byte n p11.1 (hid h9 [] ((Addr.block (fa (nwA h5) 0)) :: []))).bind fun p12 =>
    bnd (Heap.putBack p12.2 h9 ([] ++ ((Addr.block (fa (nwA h5) 0)) :: []))) fun h13 =>
    (fillL [(.int .i64 0), (.slice none 0 0)] [(0, 1, (.int .i64 x10)), (1, 1, p12.1.1)]).bind fun cs14 =>
    (fillL [(.int .i64 0), (.slice none 0 0)] [(0, 2, (.agg ⟨cs14⟩))]).bind fun cs15 =>
    bnd ((Heap.new h13 (.cells cs15 false 2))) fun h16 =>
    (appendK h16 32 2 v3 (.slice (some ⟨Heap.next h13, 0, some 0⟩) 1 1)).bind fun p17 =>
    some (.inl ((p17.1, ((IntKind.i64.wrap (v4 + 1)), ())), p17.2)))
  else
    (Option.map Sum.inr (bif !isTuple v3 then
      (some ((v3, ()), h5))
    else
      (none)))
noncomputable def sf_sector_Disk_Waiting (n : Nat) : Sf := sfOf [(k_slices_Clone_byte_byte, s_slices_Clone_byte_byte n)]
noncomputable def it_sector_Disk_Waiting (n : Nat) : It := itOf []
def f_sector_Disk_Waiting (n : Nat) (u0 : Option Addr) (h : Heap) : Option ((Value × Unit) × Heap) :=
  bif (Option.isNone u0) then
    (some (((.slice none 0 0), ()), h))
  else
    ((u0).bind fun q0 =>
    (ldT .any h (some (fa q0 1))).bind fun x1 =>
    (lenB x1).bind fun n2 =>
    loopT (fun a => f_sector_Disk_Waiting_L18 n x1 n2 a.1.1 a.1.2.1 a.2) n (((.slice none 0 0), (0, ())), h))
def rs_sector_Disk_Waiting : Rs := [(.tmp 2, .any)]
def ps_sector_Disk_Waiting : List Ty := [.ptr]
theorem e_sector_Disk_Waiting (n : Nat) (u0 : Option Addr) (h : Heap) : f_sector_Disk_Waiting n u0 h = fB (sf_sector_Disk_Waiting n) (it_sector_Disk_Waiting n) n c2_sector_Disk_Waiting rs_sector_Disk_Waiting ps_sector_Disk_Waiting (u0, ()) h := by kernel_rfl
noncomputable def s_sector_Disk_Waiting (n : Nat) : Sf1 := mkSf ps_sector_Disk_Waiting rs_sector_Disk_Waiting fun a h => f_sector_Disk_Waiting n a.1 h
/- (*wicket/sector.Disk).Write -/
def c2_sector_Disk_Write : C2 := .seq (.reg [rg 6 (.move (.const (.int .i64 0))) .i]) <|
 .seq (.seq (.reg [rg 8 (.move 0) .ptr, rg 9 (.move 1) .i, rg 10 (.call k_sector_Disk_asked [8, 9]) .i, rg 7 (.move 10) .i]) <|
 .seq (.reg [rg 11 (.move 7) .i, rg 12 (.bin .neq 11 (.const (.int .i64 0))) .bool]) <|
 .cond 12 (.seq (.reg [rg 13 (.move 7) .i, rg 6 (.move 13) .i]) <|
 .ret) (.skip)) <|
 .seq (.seq (.reg [rg 14 (.move 2) .any, rg 15 (.lenS 14) .i, rg 16 (.bin .neq 15 (.const (.int .i64 64))) .bool]) <|
 .cond 16 (.seq (.reg [rg 6 (.move (.const (.int .i64 2))) .i]) <|
 .ret) (.skip)) <|
 .seq (.regd [(⟨0, [], false, ⟨(some 17), .move 0, none⟩⟩, .ptr), (⟨1, [], false, ⟨(some 18), .move 0, none⟩⟩, .ptr), (⟨2, [1], false, ⟨(some 19), .nilCheck 18, none⟩⟩, .ptr), (⟨3, [2, 1], false, ⟨(some 20), .fieldAddr 1 19, none⟩⟩, .ptr), (⟨4, [3, 2, 1], false, ⟨(some 21), .load false 1 20, none⟩⟩, .any), (⟨5, [], false, ⟨(some 22), .move 1, none⟩⟩, (.int .i64)), (⟨6, [], false, ⟨(some 23), .move 2, none⟩⟩, .any), (⟨7, [6], false, ⟨(some 24), .arrAt 64 23, none⟩⟩, .ptr), (⟨8, [7, 6], false, ⟨(some 25), .load true 64 24, none⟩⟩, .any), (⟨9, [5, 8, 7, 6], false, ⟨(some 26), .build [(.int .i64 0), (.int .u8 0), (.int .u8 0), (.int .u8 0), (.int .u8 0), (.int .u8 0), (.int .u8 0), (.int .u8 0), (.int .u8 0), (.int .u8 0), (.int .u8 0), (.int .u8 0), (.int .u8 0), (.int .u8 0), (.int .u8 0), (.int .u8 0), (.int .u8 0), (.int .u8 0), (.int .u8 0), (.int .u8 0), (.int .u8 0), (.int .u8 0), (.int .u8 0), (.int .u8 0), (.int .u8 0), (.int .u8 0), (.int .u8 0), (.int .u8 0), (.int .u8 0), (.int .u8 0), (.int .u8 0), (.int .u8 0), (.int .u8 0), (.int .u8 0), (.int .u8 0), (.int .u8 0), (.int .u8 0), (.int .u8 0), (.int .u8 0), (.int .u8 0), (.int .u8 0), (.int .u8 0), (.int .u8 0), (.int .u8 0), (.int .u8 0), (.int .u8 0), (.int .u8 0), (.int .u8 0), (.int .u8 0), (.int .u8 0), (.int .u8 0), (.int .u8 0), (.int .u8 0), (.int .u8 0), (.int .u8 0), (.int .u8 0), (.int .u8 0), (.int .u8 0), (.int .u8 0), (.int .u8 0), (.int .u8 0), (.int .u8 0), (.int .u8 0), (.int .u8 0), (.int .u8 0)] [(0, 1, 22), (1, 64, 25)], none⟩⟩, .any), (⟨10, [9, 5, 8, 7, 6], false, ⟨(some 27), .buildSlice 1 65 [(.int .i64 0), (.int .u8 0), (.int .u8 0), (.int .u8 0), (.int .u8 0), (.int .u8 0), (.int .u8 0), (.int .u8 0), (.int .u8 0), (.int .u8 0), (.int .u8 0), (.int .u8 0), (.int .u8 0), (.int .u8 0), (.int .u8 0), (.int .u8 0), (.int .u8 0), (.int .u8 0), (.int .u8 0), (.int .u8 0), (.int .u8 0), (.int .u8 0), (.int .u8 0), (.int .u8 0), (.int .u8 0), (.int .u8 0), (.int .u8 0), (.int .u8 0), (.int .u8 0), (.int .u8 0), (.int .u8 0), (.int .u8 0), (.int .u8 0), (.int .u8 0), (.int .u8 0), (.int .u8 0), (.int .u8 0), (.int .u8 0), (.int .u8 0), (.int .u8 0), (.int .u8 0), (.int .u8 0), (.int .u8 0), (.int .u8 0), (.int .u8 0), (.int .u8 0), (.int .u8 0), (.int .u8 0), (.int .u8 0), (.int .u8 0), (.int .u8 0), (.int .u8 0), (.int .u8 0), (.int .u8 0), (.int .u8 0), (.int .u8 0), (.int .u8 0), (.int .u8 0), (.int .u8 0), (.int .u8 0), (.int .u8 0), (.int .u8 0), (.int .u8 0), (.int .u8 0), (.int .u8 0)] [(0, 65, 26)], none⟩⟩, .any), (⟨11, [4, 10, 3, 2, 1, 9, 5, 8, 7, 6], true, ⟨(some 28), .append 72 65 21 27, none⟩⟩, .any), (⟨12, [0, 1, 2, 3, 4, 5, 6, 7, 8, 9, 10, 11], false, ⟨(some 29), .nilCheck 17, none⟩⟩, .ptr), (⟨13, [12, 0, 1, 2, 3, 4, 5, 6, 7, 8, 9, 10, 11], false, ⟨(some 30), .fieldAddr 1 29, none⟩⟩, .ptr), (⟨14, [13, 11, 0, 1, 2, 3, 4, 5, 6, 7, 8, 9, 10, 12], true, ⟨none, .store 1 30 28, none⟩⟩, .any)]) <|
 .seq (.reg [rg 6 (.move (.const (.int .i64 0))) .i]) <|
 .ret
noncomputable def sf_sector_Disk_Write (n : Nat) : Sf := sfOf [(k_sector_Disk_asked, s_sector_Disk_asked n)]
noncomputable def it_sector_Disk_Write (n : Nat) : It := itOf []
def f_sector_Disk_Write (n : Nat) (u0 : Option Addr) (u1 : Int) (u2 : Value) (h : Heap) : Option ((Int × Unit) × Heap) :=
  (f_sector_Disk_asked n u0 u1 h).bind fun p0 =>
  bif (!decide (p0.1.1 = 0)) then
    (some ((p0.1.1, ()), p0.2))
  else
    ((lenB u2).bind fun n1 =>
    bif (!decide ((n1 : Int) = 64)) then
      (some ((2, ()), p0.2))
    else
      ((u0).bind fun q2 =>
      (ldT .any p0.2 (some (fa q2 1))).bind fun x3 =>
      (arrB p0.2 64 u2).bind fun q4 =>
      (ldA 64 p0.2 q4).bind fun cs5 =>
      (fillL [(.int .i64 0), (.int .u8 0), (.int .u8 0), (.int .u8 0), (.int .u8 0), (.int .u8 0), (.int .u8 0), (.int .u8 0), (.int .u8 0), (.int .u8 0), (.int .u8 0), (.int .u8 0), (.int .u8 0), (.int .u8 0), (.int .u8 0), (.int .u8 0), (.int .u8 0), (.int .u8 0), (.int .u8 0), (.int .u8 0), (.int .u8 0), (.int .u8 0), (.int .u8 0), (.int .u8 0), (.int .u8 0), (.int .u8 0), (.int .u8 0), (.int .u8 0), (.int .u8 0), (.int .u8 0), (.int .u8 0), (.int .u8 0), (.int .u8 0), (.int .u8 0), (.int .u8 0), (.int .u8 0), (.int .u8 0), (.int .u8 0), (.int .u8 0), (.int .u8 0), (.int .u8 0), (.int .u8 0), (.int .u8 0), (.int .u8 0), (.int .u8 0), (.int .u8 0), (.int .u8 0), (.int .u8 0), (.int .u8 0), (.int .u8 0), (.int .u8 0), (.int .u8 0), (.int .u8 0), (.int .u8 0), (.int .u8 0), (.int .u8 0), (.int .u8 0), (.int .u8 0), (.int .u8 0), (.int .u8 0), (.int .u8 0), (.int .u8 0), (.int .u8 0), (.int .u8 0), (.int .u8 0)] [(0, 1, (.int .i64 u1)), (1, 64, (.agg ⟨cs5⟩))]).bind fun cs6 =>
      (fillL [(.int .i64 0), (.int .u8 0), (.int .u8 0), (.int .u8 0), (.int .u8 0), (.int .u8 0), (.int .u8 0), (.int .u8 0), (.int .u8 0), (.int .u8 0), (.int .u8 0), (.int .u8 0), (.int .u8 0), (.int .u8 0), (.int .u8 0), (.int .u8 0), (.int .u8 0), (.int .u8 0), (.int .u8 0), (.int .u8 0), (.int .u8 0), (.int .u8 0), (.int .u8 0), (.int .u8 0), (.int .u8 0), (.int .u8 0), (.int .u8 0), (.int .u8 0), (.int .u8 0), (.int .u8 0), (.int .u8 0), (.int .u8 0), (.int .u8 0), (.int .u8 0), (.int .u8 0), (.int .u8 0), (.int .u8 0), (.int .u8 0), (.int .u8 0), (.int .u8 0), (.int .u8 0), (.int .u8 0), (.int .u8 0), (.int .u8 0), (.int .u8 0), (.int .u8 0), (.int .u8 0), (.int .u8 0), (.int .u8 0), (.int .u8 0), (.int .u8 0), (.int .u8 0), (.int .u8 0), (.int .u8 0), (.int .u8 0), (.int .u8 0), (.int .u8 0), (.int .u8 0), (.int .u8 0), (.int .u8 0), (.int .u8 0), (.int .u8 0), (.int .u8 0), (.int .u8 0), (.int .u8 0)] [(0, 65, (.agg ⟨cs6⟩))]).bind fun cs7 =>
      bnd ((Heap.new p0.2 (.cells cs7 false 65))) fun h8 =>
      (appendK h8 72 65 x3 (.slice (some ⟨Heap.next p0.2, 0, some 0⟩) 1 1)).bind fun p9 =>
      (u0).bind fun q10 =>
      (stB 1 p9.1 p9.2 (some (fa q10 1))).bind fun h11 =>
      some ((0, ()), h11)))
def rs_sector_Disk_Write : Rs := [(.tmp 6, (.int .i64))]
def ps_sector_Disk_Write : List Ty := [.ptr, (.int .i64), .any]
theorem e_sector_Disk_Write (n : Nat) (u0 : Option Addr) (u1 : Int) (u2 : Value) (h : Heap) : f_sector_Disk_Write n u0 u1 u2 h = fB (sf_sector_Disk_Write n) (it_sector_Disk_Write n) n c2_sector_Disk_Write rs_sector_Disk_Write ps_sector_Disk_Write (u0, (u1, (u2, ()))) h := by kernel_rfl
noncomputable def s_sector_Disk_Write (n : Nat) : Sf1 := mkSf ps_sector_Disk_Write rs_sector_Disk_Write fun a h => f_sector_Disk_Write n a.1 a.2.1 a.2.2.1 h
/- (*wicket/wicketref04.Disk).Write -/
def c2_r4_Disk_Write : C2 := .seq (.reg [rg 6 (.move (.const (.int .i64 0))) .i]) <|
 .seq (.seq (.cutn [(14, .bool)] <|
 .reg [rg 7 (.move 1) .i, rg 8 (.bin .lss 7 (.const (.int .i64 0))) .bool, rg 9 (.move 8) .bool, rq 10 (.move 1) 9 .i, rq 11 (.move 0) 9 .ptr, rq 12 (.call k_r4_Disk_Len [11]) 9 .i, rq 13 (.bin .geq 10 12) 9 .bool, rg 14 (.pick 9 (.const (.bool true)) 13) .bool]) <|
 .cond 14 (.seq (.reg [rg 6 (.move (.const (.int .i64 40))) .i]) <|
 .ret) (.skip)) <|
 .seq (.seq (.reg [rg 15 (.move 2) .any, rg 16 (.lenS 15) .i, rg 17 (.bin .neq 16 (.const (.int .i64 64))) .bool]) <|
 .cond 17 (.seq (.reg [rg 6 (.move (.const (.int .i64 2))) .i]) <|
 .ret) (.skip)) <|
 .seq (.regd [(⟨0, [], false, ⟨(some 18), .move 0, none⟩⟩, .ptr), (⟨1, [], false, ⟨(some 19), .move 0, none⟩⟩, .ptr), (⟨2, [1], false, ⟨(some 20), .nilCheck 19, none⟩⟩, .ptr), (⟨3, [2, 1], false, ⟨(some 21), .fieldAddr 1 20, none⟩⟩, .ptr), (⟨4, [3, 2, 1], false, ⟨(some 22), .load false 1 21, none⟩⟩, .any), (⟨5, [], false, ⟨(some 23), .move 1, none⟩⟩, (.int .i64)), (⟨6, [], false, ⟨(some 24), .buildSlice 0 1 [] [], none⟩⟩, .any), (⟨7, [], false, ⟨(some 25), .move 2, none⟩⟩, .any), (⟨8, [6, 7], true, ⟨(some 26), .append 1 1 24 25, none⟩⟩, .any), (⟨9, [5, 8, 6, 7], false, ⟨(some 27), .build [(.int .i64 0), (.slice none 0 0)] [(0, 1, 23), (1, 1, 26)], none⟩⟩, .any), (⟨10, [9, 5, 8, 6, 7], false, ⟨(some 28), .buildSlice 1 2 [(.int .i64 0), (.slice none 0 0)] [(0, 2, 27)], none⟩⟩, .any), (⟨11, [4, 10, 8, 3, 2, 1, 9, 5, 6, 7], true, ⟨(some 29), .append 32 2 22 28, none⟩⟩, .any), (⟨12, [0, 1, 2, 3, 4, 5, 6, 7, 8, 9, 10, 11], false, ⟨(some 30), .nilCheck 18, none⟩⟩, .ptr), (⟨13, [12, 0, 1, 2, 3, 4, 5, 6, 7, 8, 9, 10, 11], false, ⟨(some 31), .fieldAddr 1 30, none⟩⟩, .ptr), (⟨14, [13, 11, 0, 1, 2, 3, 4, 5, 6, 7, 8, 9, 10, 12], true, ⟨none, .store 1 31 29, none⟩⟩, .any)]) <|
 .seq (.reg [rg 6 (.move (.const (.int .i64 0))) .i]) <|
 .ret
noncomputable def sf_r4_Disk_Write (n : Nat) : Sf := sfOf [(k_r4_Disk_Len, s_r4_Disk_Len n)]
noncomputable def it_r4_Disk_Write (n : Nat) : It := itOf []
def f_r4_Disk_Write (n : Nat) (u0 : Option Addr) (u1 : Int) (u2 : Value) (h : Heap) : Option ((Int × Unit) × Heap) :=
  ((bif (decide (u1 < 0)) then
      (some ((true, ()), h))
    else
      ((f_r4_Disk_Len n u0 h).bind fun p0 =>
      some (((decide (p0.1.1 ≤ u1)), ()), p0.2))) : Option ((Bool × Unit) × Heap)).bind fun a1 =>
  bif a1.1.1 then
    (some ((40, ()), a1.2))
  else
    ((lenB u2).bind fun n2 =>
    bif (!decide ((n2 : Int) = 64)) then
      (some ((2, ()), a1.2))
    else
      ((u0).bind fun q3 =>
      (ldT .any a1.2 (some (fa q3 1))).bind fun x4 =>
      (fillL [] []).bind fun cs5 =>
      bnd ((Heap.new a1.2 (.cells cs5 false 1))) fun h6 =>
      (appendK (hid h6 [] ((Addr.block (fa q3 1)) :: [])) 1 1 (.slice (some ⟨Heap.next a1.2, 0, some 0⟩) 0 0) u2).bind fun p7 =>
      bnd (Heap.putBack p7.2 h6 ([] ++ ((Addr.block (fa q3 1)) :: []))) fun h8 =>
      (fillL [(.int .i64 0), (.slice none 0 0)] [(0, 1, (.int .i64 u1)), (1, 1, p7.1)]).bind fun cs9 =>
      (fillL [(.int .i64 0), (.slice none 0 0)] [(0, 2, (.agg ⟨cs9⟩))]).bind fun cs10 =>
      bnd ((Heap.new h8 (.cells cs10 false 2))) fun h11 =>
      (appendK h11 32 2 x4 (.slice (some ⟨Heap.next h8, 0, some 0⟩) 1 1)).bind fun p12 =>
      (u0).bind fun q13 =>
      (stB 1 p12.1 p12.2 (some (fa q13 1))).bind fun h14 =>
      some ((0, ()), h14)))
def rs_r4_Disk_Write : Rs := [(.tmp 6, (.int .i64))]
def ps_r4_Disk_Write : List Ty := [.ptr, (.int .i64), .any]
theorem e_r4_Disk_Write (n : Nat) (u0 : Option Addr) (u1 : Int) (u2 : Value) (h : Heap) : f_r4_Disk_Write n u0 u1 u2 h = fB (sf_r4_Disk_Write n) (it_r4_Disk_Write n) n c2_r4_Disk_Write rs_r4_Disk_Write ps_r4_Disk_Write (u0, (u1, (u2, ()))) h := by kernel_rfl
noncomputable def s_r4_Disk_Write (n : Nat) : Sf1 := mkSf ps_r4_Disk_Write rs_r4_Disk_Write fun a h => f_r4_Disk_Write n a.1 a.2.1 a.2.2.1 h
/- (*wicket/wicketref04.Disk).Flush -/
def c2_r4_Disk_Flush : C2 := .seq (.reg [rg 2 (.move (.const (.int .i64 0))) .i]) <|
 .seq (.reg [rg 3 (.move (.const (.slice none 0 0))) .any]) <|
 .seq (.cutn [(3, .any)] <|
 .seq (.reg [rg 4 (.move (.const (.int .i64 0))) .i]) <|
 .block 0 <|
 .loop [(3, .any), (4, .i)] <|
 .seq (.seq (.reg [rg 5 (.move 4) .i, rg 6 (.move 0) .ptr, rg 7 (.nilCheck 6) .ptr, rg 8 (.fieldAddr 1 7) .ptr, rg 9 (.load false 1 8) .any, rg 10 (.lenS 9) .i, rg 11 (.bin .lss 5 10) .bool]) <|
 .cond 11 (.skip) (.exit 0)) <|
 .seq (.block 1 <|
 .reg [rg 14 (.move 3) .any, rg 15 (.move 4) .i, rg 16 (.buildSlice 1 1 [(.int .i64 0)] [(0, 1, 15)]) .any, rg 17 (.append 8 1 14 16) .any, rg 3 (.move 17) .any]) <|
 .reg [rg 12 (.move 4) .i, rg 13 (.bin .add 12 (.const (.int .i64 1))) .i, rg 4 (.move 13) .i]) <|
 .seq (.reg [rg 18 (.move 0) .ptr, rg 19 (.move 3) .any, rg 20 (.call k_r4_Disk_Crash [18, 19]) .i, rg 2 (.move 20) .i]) <|
 .ret
def f_r4_Disk_Flush_L9 (n : Nat) (u0 : Option Addr) (v0 : Value) (v1 : Int) (h2 : Heap) : Option (((Value × Int × Unit) × Heap) ⊕ ((Value × Unit) × Heap)) :=
  (u0).bind fun q3 =>
  (ldT .any h2 (some (fa q3 1))).bind fun x4 =>
  (lenB x4).bind fun n5 =>
  bif (decide (v1 < (n5 : Int))) then
    ((fillL [(.int .i64 0)] [(0, 1, (.int .i64 v1))]).bind fun cs6 =>
    bnd ((Heap.new h2 (.cells cs6 false 1))) fun h7 =>
    (appendK h7 8 1 v0 (.slice (some ⟨Heap.next h2, 0, some 0⟩) 1 1)).bind fun p8 =>
    some (.inl ((p8.1, ((IntKind.i64.wrap (v1 + 1)), ())), p8.2)))
  else
    (some (.inr ((v0, ()), h2)))
noncomputable def sf_r4_Disk_Flush (n : Nat) : Sf := sfOf [(k_r4_Disk_Crash, s_r4_Disk_Crash n)]
noncomputable def it_r4_Disk_Flush (n : Nat) : It := itOf []
def f_r4_Disk_Flush (n : Nat) (u0 : Option Addr) (h : Heap) : Option ((Int × Unit) × Heap) :=
  ((loopT (fun a => f_r4_Disk_Flush_L9 n u0 a.1.1 a.1.2.1 a.2) n (((.slice none 0 0), (0, ())), h)) : Option ((Value × Unit) × Heap)).bind fun a10 =>
  (f_r4_Disk_Crash n u0 a10.1.1 a10.2).bind fun p11 =>
  some ((p11.1.1, ()), p11.2)
def rs_r4_Disk_Flush : Rs := [(.tmp 2, (.int .i64))]
def ps_r4_Disk_Flush : List Ty := [.ptr]
theorem e_r4_Disk_Flush (n : Nat) (u0 : Option Addr) (h : Heap) : f_r4_Disk_Flush n u0 h = fB (sf_r4_Disk_Flush n) (it_r4_Disk_Flush n) n c2_r4_Disk_Flush rs_r4_Disk_Flush ps_r4_Disk_Flush (u0, ()) h := by kernel_rfl
noncomputable def s_r4_Disk_Flush (n : Nat) : Sf1 := mkSf ps_r4_Disk_Flush rs_r4_Disk_Flush fun a h => f_r4_Disk_Flush n a.1 h
/- wicket/octet.Put -/
def c2_octet_Put : C2 := .seq (.reg [rg 4 (.move (.const (.slice none 0 0))) .any, rg 5 (.move (.const (.int .i64 0))) .i]) <|
 .seq (.seq (.reg [rg 8 (.move 1) .i, rg 9 (.call k_octet_may [8]) .bool, rg 10 (.un .not 9) .bool]) <|
 .cond 10 (.seq (.reg [rg 4 (.move (.const (.slice none 0 0))) .any, rg 5 (.move (.const (.int .i64 2))) .i]) <|
 .ret) (.skip)) <|
 .seq (.reg [rg 11 (.move 1) .i, rg 12 (.makeSlice 1 1 [(.int .u8 0)] 11 11) .any, rg 6 (.move 12) .any]) <|
 .seq (.cutn [(0, (.int .u64))] <|
 .seq (.reg [rg 13 (.move 6) .any, rg 14 (.lenS 13) .i, rg 15 (.move (.const (.int .i64 0))) .i]) <|
 .block 0 <|
 .loop [(0, (.int .u64)), (15, .i)] <|
 .seq (.reg [rg 16 (.bin .lss 15 14) .any]) <|
 .seq (.cond 16 (.skip) (.exit 0)) <|
 .seq (.block 1 <|
 .seq (.reg [rg 17 (.move 15) .i, rg 7 (.move 17) .i]) <|
 .seq (.reg [rg 18 (.move 6) .any, rg 19 (.move 7) .i, rg 20 (.move 0) (.int .u64), rg 21 (.conv .u8 20) .u, rg 22 (.idxSlice 1 18 19) .ptr, rn (.store 1 22 21) .any]) <|
 .reg [rg 23 (.move 0) (.int .u64), rg 24 (.bin .shr 23 (.const (.int .u64 8))) (.int .u64), rg 0 (.move 24) (.int .u64)]) <|
 .reg [rg 25 (.bin .add 15 (.const (.int .i64 1))) .i, rg 15 (.move 25) .i]) <|
 .seq (.seq (.reg [rg 26 (.move 0) (.int .u64), rg 27 (.bin .neq 26 (.const (.int .u64 0))) .bool]) <|
 .cond 27 (.seq (.reg [rg 4 (.move (.const (.slice none 0 0))) .any, rg 5 (.move (.const (.int .i64 10))) .i]) <|
 .ret) (.skip)) <|
 .seq (.reg [rg 28 (.move 6) .any, rg 4 (.move 28) .any, rg 5 (.move (.const (.int .i64 0))) .i]) <|
 .ret
def f_octet_Put_L10 (n : Nat) (p1 : (Value × AObj)) (n3 : Nat) (v4 : Int) (v5 : Int) (h6 : Heap) : Option (((Int × Int × Unit) × Heap) ⊕ ((Int × Unit) × Heap)) :=
  bif (decide (v5 < (n3 : Int))) then
    ((ixB 1 p1.1 v5).bind fun q7 =>
    (stB 1 (.int .u8 (IntKind.u8.wrap (v4))) h6 (some q7)).bind fun h8 =>
    (bitB .shr .u64 v4 .u64 8).bind fun x9 =>
    some (.inl ((x9, ((IntKind.i64.wrap (v5 + 1)), ())), h8)))
  else
    (some (.inr ((v4, ()), h6)))
noncomputable def sf_octet_Put (n : Nat) : Sf := sfOf [(k_octet_may, s_octet_may n)]
noncomputable def it_octet_Put (n : Nat) : It := itOf []
def f_octet_Put (n : Nat) (u0 : Int) (u1 : Int) (h : Heap) : Option ((Value × Int × Unit) × Heap) :=
  (f_octet_may n u1 h).bind fun p0 =>
  bif (!p0.1.1) then
    (some (((.slice none 0 0), (2, ())), p0.2))
  else
    ((mkSl (Heap.next p0.2) 1 1 [(.int .u8 0)] (.int .i64 u1) (.int .i64 u1)).bind fun p1 =>
    bnd ((Heap.new p0.2 (p1.2))) fun h2 =>
    (((lenB p1.1).bind fun n3 =>
      loopT (fun a => f_octet_Put_L10 n p1 n3 a.1.1 a.1.2.1 a.2) n ((u0, (0, ())), h2)) : Option ((Int × Unit) × Heap)).bind fun a11 =>
    bif (!decide (a11.1.1 = 0)) then
      (some (((.slice none 0 0), (10, ())), a11.2))
    else
      (bif !isTuple p1.1 then
        (some ((p1.1, (0, ())), a11.2))
      else
        (none)))
def rs_octet_Put : Rs := [(.tmp 4, .any), (.tmp 5, (.int .i64))]
def ps_octet_Put : List Ty := [(.int .u64), (.int .i64)]
theorem e_octet_Put (n : Nat) (u0 : Int) (u1 : Int) (h : Heap) : f_octet_Put n u0 u1 h = fB (sf_octet_Put n) (it_octet_Put n) n c2_octet_Put rs_octet_Put ps_octet_Put (u0, (u1, ())) h := by kernel_rfl
noncomputable def s_octet_Put (n : Nat) : Sf1 := mkSf ps_octet_Put rs_octet_Put fun a h => f_octet_Put n a.1 a.2.1 h
/- wicket/sum.Of -/
def c2_sum_Of : C2 := .seq (.reg [rg 2 (.move (.const (.int .u32 0))) (.int .u32)]) <|
 .seq (.reg [rg 3 (.move (.const (.int .u32 4294967295))) (.int .u32)]) <|
 .seq (.cutn [(3, (.int .u32))] <|
 .seq (.reg [rg 8 (.move 0) .any, rg 9 (.lenS 8) .i, rg 10 (.move (.const (.int .i64 0))) .i]) <|
 .block 0 <|
 .loop [(3, (.int .u32)), (10, .i)] <|
 .seq (.reg [rg 11 (.bin .lss 10 9) .any]) <|
 .seq (.cond 11 (.skip) (.exit 0)) <|
 .seq (.cutn [(3, (.int .u32))] <|
 .block 1 <|
 .seq (.reg [rg 12 (.idxSlice 1 8 10) .ptr, rg 13 (.load false 1 12) .any, rg 5 (.move 13) .any]) <|
 .seq (.reg [rg 14 (.move 5) .any, rg 15 (.lenS 14) .i, rg 16 (.move (.const (.int .i64 0))) .i]) <|
 .block 2 <|
 .loop [(3, (.int .u32)), (16, .i)] <|
 .seq (.reg [rg 17 (.bin .lss 16 15) .any]) <|
 .seq (.cond 17 (.skip) (.exit 2)) <|
 .seq (.block 3 <|
 .seq (.reg [rg 18 (.idxSlice 1 14 16) .ptr, rg 19 (.load false 1 18) .u, rg 7 (.move 19) .u]) <|
 .reg [rg 20 (.move 3) (.int .u32), rg 21 (.move 7) .u, rg 22 (.call k_sum_push [20, 21]) (.int .u32), rg 3 (.move 22) (.int .u32)]) <|
 .reg [rg 23 (.bin .add 16 (.const (.int .i64 1))) .i, rg 16 (.move 23) .i]) <|
 .reg [rg 24 (.bin .add 10 (.const (.int .i64 1))) .i, rg 10 (.move 24) .i]) <|
 .seq (.reg [rg 25 (.move 3) (.int .u32), rg 26 (.un .xor 25) (.int .u32), rg 2 (.move 26) (.int .u32)]) <|
 .ret
def f_sum_Of_L13 (n : Nat) (x5 : Value) (n6 : Nat) (v7 : Int) (v8 : Int) (h9 : Heap) : Option (((Int × Int × Unit) × Heap) ⊕ ((Int × Unit) × Heap)) :=
  bif (decide (v8 < (n6 : Int))) then
    ((ixB 1 x5 v8).bind fun q10 =>
    (ldT (.int .u8) h9 (some q10)).bind fun x11 =>
    (f_sum_push n v7 x11 h9).bind fun p12 =>
    some (.inl ((p12.1.1, ((IntKind.i64.wrap (v8 + 1)), ())), p12.2)))
  else
    (some (.inr ((v7, ()), h9)))
def f_sum_Of_L15 (n : Nat) (u0 : Value) (n0 : Nat) (v1 : Int) (v2 : Int) (h3 : Heap) : Option (((Int × Int × Unit) × Heap) ⊕ ((Int × Unit) × Heap)) :=
  bif (decide (v2 < (n0 : Int))) then
    ((((ixB 1 u0 v2).bind fun q4 =>
      (ldT .any h3 (some q4)).bind fun x5 =>
      (lenB x5).bind fun n6 =>
      loopT (fun a => f_sum_Of_L13 n x5 n6 a.1.1 a.1.2.1 a.2) n ((v1, (0, ())), h3)) : Option ((Int × Unit) × Heap)).bind fun a14 =>
    some (.inl ((a14.1.1, ((IntKind.i64.wrap (v2 + 1)), ())), a14.2)))
  else
    (some (.inr ((v1, ()), h3)))
noncomputable def sf_sum_Of (n : Nat) : Sf := sfOf [(k_sum_push, s_sum_push n)]
noncomputable def it_sum_Of (n : Nat) : It := itOf []
def f_sum_Of (n : Nat) (u0 : Value) (h : Heap) : Option ((Int × Unit) × Heap) :=
  (((lenB u0).bind fun n0 =>
    loopT (fun a => f_sum_Of_L15 n u0 n0 a.1.1 a.1.2.1 a.2) n ((4294967295, (0, ())), h)) : Option ((Int × Unit) × Heap)).bind fun a16 =>
  (unB .xor .u32 a16.1.1).bind fun x17 =>
  some ((x17, ()), a16.2)
def rs_sum_Of : Rs := [(.tmp 2, (.int .u32))]
def ps_sum_Of : List Ty := [.any]
theorem e_sum_Of (n : Nat) (u0 : Value) (h : Heap) : f_sum_Of n u0 h = fB (sf_sum_Of n) (it_sum_Of n) n c2_sum_Of rs_sum_Of ps_sum_Of (u0, ()) h := by kernel_rfl
noncomputable def s_sum_Of (n : Nat) : Sf1 := mkSf ps_sum_Of rs_sum_Of fun a h => f_sum_Of n a.1 h
/- wicket/wicketref08.fits -/
def c2_r8_fits : C2 := .seq (.reg [rg 3 (.box 1) .ptr, rg 4 (.move (.const (.int .i64 0))) .i]) <|
 .seq (.block 0 <|
 .seq (.reg [rg 6 (.move 0) .ptr, rg 7 (.eqv false .ptr 6 (.const (.pointer none))) .bool, rg 5 (.move 7) .bool]) <|
 .cond 5 (.seq (.reg [rg 4 (.move (.const (.int .i64 1))) .i]) <|
 .ret) (.seq (.reg [rg 9 (.load true 5 3) .any, rg 10 (.call k_r8_May [9]) .bool, rg 11 (.un .not 10) .bool, rg 8 (.move 11) .bool]) <|
 .cond 8 (.seq (.reg [rg 4 (.move (.const (.int .i64 3))) .i]) <|
 .ret) (.seq (.regd [(⟨0, [], false, ⟨(some 13), .move 0, none⟩⟩, .ptr), (⟨2, [], false, ⟨(some 15), .fieldAddr 0 3, none⟩⟩, .ptr), (⟨3, [2], false, ⟨(some 16), .load false 1 15, none⟩⟩, (.int .i64)), (⟨4, [3, 2], false, ⟨(some 17), .bin .add (.const (.int .i64 1)) 16, none⟩⟩, (.int .i64)), (⟨5, [], false, ⟨(some 18), .fieldAddr 1 3, none⟩⟩, .ptr), (⟨6, [5], false, ⟨(some 19), .load false 1 18, none⟩⟩, (.int .i64)), (⟨7, [4, 6, 3, 2, 5], false, ⟨(some 20), .bin .add 17 19, none⟩⟩, (.int .i64)), (⟨1, [0], true, ⟨(some 14), .call k_r4_Disk_Len [13], none⟩⟩, (.int .i64)), (⟨8, [1, 7, 0, 4, 6, 3, 2, 5], false, ⟨(some 21), .bin .neq 14 20, none⟩⟩, .bool), (⟨9, [8, 1, 7, 0, 4, 6, 3, 2, 5], false, ⟨(some 12), .move 21, none⟩⟩, .bool)]) <|
 .cond 12 (.seq (.reg [rg 4 (.move (.const (.int .i64 40))) .i]) <|
 .ret) (.skip)))) <|
 .seq (.reg [rg 4 (.move (.const (.int .i64 0))) .i]) <|
 .ret
noncomputable def sf_r8_fits (n : Nat) : Sf := sfOf [(k_r8_May, s_r8_May n), (k_r4_Disk_Len, s_r4_Disk_Len n)]
noncomputable def it_r8_fits (n : Nat) : It := itOf []
def f_r8_fits (n : Nat) (u0 : Option Addr) (u1 : Value) (h : Heap) : Option ((Int × Unit) × Heap) :=
  bif (cellsOf u1).all isCell then
    (bnd ((Heap.new h (.cells (cellsOf u1) false 0))) fun h0 =>
    bif (Option.isNone u0) then
      (some ((1, ()), h0))
    else
      ((ldA 5 h0 (some (nwA h))).bind fun cs1 =>
      (f_r8_May n (.agg ⟨cs1⟩) h0).bind fun p2 =>
      bif (!p2.1.1) then
        (some ((3, ()), p2.2))
      else
        ((ldT (.int .i64) p2.2 (some (fa (nwA h) 0))).bind fun x3 =>
        (ldT (.int .i64) p2.2 (some (fa (nwA h) 1))).bind fun x4 =>
        (f_r4_Disk_Len n u0 (hid p2.2 [] ((Addr.block (fa (nwA h) 1)) :: ((Addr.block (fa (nwA h) 0)) :: [])))).bind fun p5 =>
        bnd (Heap.putBack p5.2 p2.2 ([] ++ ((Addr.block (fa (nwA h) 1)) :: ((Addr.block (fa (nwA h) 0)) :: [])))) fun h6 =>
        bif (!decide (p5.1.1 = (IntKind.i64.wrap ((IntKind.i64.wrap (1 + x3)) + x4)))) then
          (some ((40, ()), h6))
        else
          (some ((0, ()), h6)))))
  else
    (none)
def rs_r8_fits : Rs := [(.tmp 4, (.int .i64))]
def ps_r8_fits : List Ty := [.ptr, .any]
theorem e_r8_fits (n : Nat) (u0 : Option Addr) (u1 : Value) (h : Heap) : f_r8_fits n u0 u1 h = fB (sf_r8_fits n) (it_r8_fits n) n c2_r8_fits rs_r8_fits ps_r8_fits (u0, (u1, ())) h := by kernel_rfl
noncomputable def s_r8_fits (n : Nat) : Sf1 := mkSf ps_r8_fits rs_r8_fits fun a h => f_r8_fits n a.1 a.2.1 h
/- (*wicket/wicketref04.Disk).Read -/
def c2_r4_Disk_Read : C2 := .seq (.reg [rg 4 (.move (.const (.slice none 0 0))) .any, rg 5 (.move (.const (.int .i64 0))) .i]) <|
 .seq (.seq (.cutn [(15, .bool)] <|
 .reg [rg 8 (.move 1) .i, rg 9 (.bin .lss 8 (.const (.int .i64 0))) .bool, rg 10 (.move 9) .bool, rq 11 (.move 1) 10 .i, rq 12 (.move 0) 10 .ptr, rq 13 (.call k_r4_Disk_Len [12]) 10 .i, rq 14 (.bin .geq 11 13) 10 .bool, rg 15 (.pick 10 (.const (.bool true)) 14) .bool]) <|
 .cond 15 (.seq (.reg [rg 4 (.move (.const (.slice none 0 0))) .any, rg 5 (.move (.const (.int .i64 40))) .i]) <|
 .ret) (.skip)) <|
 .seq (.reg [rg 16 (.buildSlice 0 1 [] []) .any, rg 17 (.move 0) .ptr, rg 18 (.nilCheck 17) .ptr, rg 19 (.fieldAddr 0 18) .ptr, rg 20 (.load false 1 19) .any, rg 21 (.move 1) .i, rg 22 (.bin .mul 21 (.const (.int .i64 64))) .i, rg 23 (.move 1) .i, rg 24 (.bin .add 23 (.const (.int .i64 1))) .i, rg 25 (.bin .mul 24 (.const (.int .i64 64))) .i, rg 26 (.slice 1 20 (some 22) (some 25) none) .any, rg 27 (.append 1 1 16 26) .any, rg 6 (.move 27) .any]) <|
 .seq (.cutn [(6, .any)] <|
 .seq (.reg [rg 7 (.move (.const (.int .i64 0))) .i]) <|
 .block 0 <|
 .loop [(6, .any), (7, .i)] <|
 .seq (.seq (.reg [rg 28 (.move 7) .i, rg 29 (.move 0) .ptr, rg 30 (.nilCheck 29) .ptr, rg 31 (.fieldAddr 1 30) .ptr, rg 32 (.load false 1 31) .any, rg 33 (.lenS 32) .i, rg 34 (.bin .lss 28 33) .bool]) <|
 .cond 34 (.skip) (.exit 0)) <|
 .seq (.cutn [(6, .any)] <|
 .block 1 <|
 .seq (.reg [rg 37 (.move 0) .ptr, rg 38 (.nilCheck 37) .ptr, rg 39 (.fieldAddr 1 38) .ptr, rg 40 (.load false 1 39) .any, rg 41 (.move 7) .i, rg 42 (.idxSlice 2 40 41) .ptr, rg 43 (.fieldAddr 0 42) .ptr, rg 44 (.load false 1 43) .i, rg 45 (.move 1) .i, rg 46 (.bin .eql 44 45) .bool]) <|
 .cond 46 (.reg [rg 47 (.buildSlice 0 1 [] []) .any, rg 48 (.move 0) .ptr, rg 49 (.nilCheck 48) .ptr, rg 50 (.fieldAddr 1 49) .ptr, rg 51 (.load false 1 50) .any, rg 52 (.move 7) .i, rg 53 (.idxSlice 2 51 52) .ptr, rg 54 (.fieldAddr 1 53) .ptr, rg 55 (.load false 1 54) .any, rg 56 (.append 1 1 47 55) .any, rg 6 (.move 56) .any]) (.skip)) <|
 .reg [rg 35 (.move 7) .i, rg 36 (.bin .add 35 (.const (.int .i64 1))) .i, rg 7 (.move 36) .i]) <|
 .seq (.reg [rg 57 (.move 6) .any, rg 4 (.move 57) .any, rg 5 (.move (.const (.int .i64 0))) .i]) <|
 .ret
def f_r4_Disk_Read_L26 (n : Nat) (u1 : Int) (u0 : Option Addr) (v8 : Value) (v9 : Int) (h10 : Heap) : Option (((Value × Int × Unit) × Heap) ⊕ ((Value × Unit) × Heap)) :=
  (u0).bind fun q11 =>
  (ldT .any h10 (some (fa q11 1))).bind fun x12 =>
  (lenB x12).bind fun n13 =>
  bif (decide (v9 < (n13 : Int))) then
    ((((u0).bind fun q14 =>
      (ldT .any h10 (some (fa q14 1))).bind fun x15 =>
      (ixB 2 x15 v9).bind fun q16 =>
      (ldT (.int .i64) h10 (some (fa q16 0))).bind fun x17 =>
      bif (decide (x17 = u1)) then
        ((fillL [] []).bind fun cs18 =>
        bnd ((Heap.new h10 (.cells cs18 false 1))) fun h19 =>
        (u0).bind fun q20 =>
        (ldT .any h19 (some (fa q20 1))).bind fun x21 =>
        (ixB 2 x21 v9).bind fun q22 =>
        (ldT .any h19 (some (fa q22 1))).bind fun x23 =>
        (appendK h19 1 1 (.slice (some ⟨Heap.next h10, 0, some 0⟩) 0 0) x23).bind fun p24 =>
        some ((p24.1, ()), p24.2))
      else
        (some ((v8, ()), h10))) : Option ((Value × Unit) × Heap)).bind fun a25 =>
    some (.inl ((a25.1.1, ((IntKind.i64.wrap (v9 + 1)), ())), a25.2)))
  else
    (some (.inr ((v8, ()), h10)))
noncomputable def sf_r4_Disk_Read (n : Nat) : Sf := sfOf [(k_r4_Disk_Len, s_r4_Disk_Len n)]
noncomputable def it_r4_Disk_Read (n : Nat) : It := itOf []
def f_r4_Disk_Read (n : Nat) (u0 : Option Addr) (u1 : Int) (h : Heap) : Option ((Value × Int × Unit) × Heap) :=
  ((bif (decide (u1 < 0)) then
      (some ((true, ()), h))
    else
      ((f_r4_Disk_Len n u0 h).bind fun p0 =>
      some (((decide (p0.1.1 ≤ u1)), ()), p0.2))) : Option ((Bool × Unit) × Heap)).bind fun a1 =>
  bif a1.1.1 then
    (some (((.slice none 0 0), (40, ())), a1.2))
  else
    ((fillL [] []).bind fun cs2 =>
    bnd ((Heap.new a1.2 (.cells cs2 false 1))) fun h3 =>
    (u0).bind fun q4 =>
    (ldT .any h3 (some (fa q4 0))).bind fun x5 =>
    (sliceK h3 1 (some (.int .i64 (IntKind.i64.wrap (u1 * 64)))) (some (.int .i64 (IntKind.i64.wrap ((IntKind.i64.wrap (u1 + 1)) * 64)))) none x5).bind fun p6 =>
    (appendK h3 1 1 (.slice (some ⟨Heap.next a1.2, 0, some 0⟩) 0 0) p6.1).bind fun p7 =>
    ((loopT (fun a => f_r4_Disk_Read_L26 n u1 u0 a.1.1 a.1.2.1 a.2) n ((p7.1, (0, ())), p7.2)) : Option ((Value × Unit) × Heap)).bind fun a27 =>
    bif !isTuple a27.1.1 then
      (some ((a27.1.1, (0, ())), a27.2))
    else
      (none))
def rs_r4_Disk_Read : Rs := [(.tmp 4, .any), (.tmp 5, (.int .i64))]
def ps_r4_Disk_Read : List Ty := [.ptr, (.int .i64)]
theorem e_r4_Disk_Read (n : Nat) (u0 : Option Addr) (u1 : Int) (h : Heap) : f_r4_Disk_Read n u0 u1 h = fB (sf_r4_Disk_Read n) (it_r4_Disk_Read n) n c2_r4_Disk_Read rs_r4_Disk_Read ps_r4_Disk_Read (u0, (u1, ())) h := by kernel_rfl
noncomputable def s_r4_Disk_Read (n : Nat) : Sf1 := mkSf ps_r4_Disk_Read rs_r4_Disk_Read fun a h => f_r4_Disk_Read n a.1 a.2.1 h
/- slices.Backward[[]wicket/sector.waiting,wicket/sector.waiting] -/
def c2_slices_Backward_sector_waiting_sector_waiting : C2 := .seq (.reg [rg 1 (.box 0) .ptr, rg 2 (.move (.const .nilFunc)) (.fn k_slices_Backward_sector_waiting_sector_waiting_1 1)]) <|
 .seq (.reg [rg 3 (.makeFunc k_slices_Backward_sector_waiting_sector_waiting_1 [] [1]) (.fn k_slices_Backward_sector_waiting_sector_waiting_1 1), rg 2 (.move 3) (.fn k_slices_Backward_sector_waiting_sector_waiting_1 1)]) <|
 .ret
noncomputable def sf_slices_Backward_sector_waiting_sector_waiting (n : Nat) : Sf := sfOf []
noncomputable def it_slices_Backward_sector_waiting_sector_waiting (n : Nat) : It := itOf []
def f_slices_Backward_sector_waiting_sector_waiting (n : Nat) (u0 : Value) (h : Heap) : Option ((Ptrs 1 × Unit) × Heap) :=
  bif (cellsOf u0).all isCell then
    (bnd ((Heap.new h (.cells (cellsOf u0) false 0))) fun h0 =>
    some ((((some (nwA h)), ()), ()), h0))
  else
    (none)
def rs_slices_Backward_sector_waiting_sector_waiting : Rs := [(.tmp 2, (.fn k_slices_Backward_sector_waiting_sector_waiting_1 1))]
def ps_slices_Backward_sector_waiting_sector_waiting : List Ty := [.any]
theorem e_slices_Backward_sector_waiting_sector_waiting (n : Nat) (u0 : Value) (h : Heap) : f_slices_Backward_sector_waiting_sector_waiting n u0 h = fB (sf_slices_Backward_sector_waiting_sector_waiting n) (it_slices_Backward_sector_waiting_sector_waiting n) n c2_slices_Backward_sector_waiting_sector_waiting rs_slices_Backward_sector_waiting_sector_waiting ps_slices_Backward_sector_waiting_sector_waiting (u0, ()) h := by kernel_rfl
noncomputable def s_slices_Backward_sector_waiting_sector_waiting (n : Nat) : Sf1 := mkSf ps_slices_Backward_sector_waiting_sector_waiting rs_slices_Backward_sector_waiting_sector_waiting fun a h => f_slices_Backward_sector_waiting_sector_waiting n a.1 h
/- wicket/super.Config -/
def c2_super_Config : C2 := .seq (.reg [rg 1 (.box 0) .ptr, rg 2 (.move (.const (.int .i64 0))) .i]) <|
 .seq (.block 0 <|
 .seq (.cutn [(3, .bool)] <|
 .seq (.reg [rg 4 (.fieldAddr 0 1) .ptr, rg 5 (.load false 1 4) .i, rg 6 (.call k_super_within [5, (.const (.int .i64 64))]) .bool, rg 7 (.un .not 6) .bool, rg 3 (.move 7) .bool]) <|
 .cond 3 (.skip) (.seq (.reg [rg 8 (.fieldAddr 1 1) .ptr, rg 9 (.load false 1 8) .i, rg 10 (.bin .sub 9 (.const (.int .i64 1))) .i, rg 11 (.call k_super_within [10, (.const (.int .i64 63))]) .bool, rg 12 (.un .not 11) .bool, rg 3 (.move 12) .bool]) <|
 .cond 3 (.skip) (.reg [rg 13 (.fieldAddr 4 1) .ptr, rg 14 (.load false 1 13) .i, rg 15 (.call k_super_within [14, (.const (.int .i64 8))]) .bool, rg 16 (.un .not 15) .bool, rg 3 (.move 16) .bool]))) <|
 .cond 3 (.seq (.reg [rg 2 (.move (.const (.int .i64 3))) .i]) <|
 .ret) (.seq (.cutn [(17, .bool)] <|
 .seq (.reg [rg 18 (.fieldAddr 2 1) .ptr, rg 19 (.load false 1 18) .i, rg 20 (.fieldAddr 0 1) .ptr, rg 21 (.load false 1 20) .i, rg 22 (.fieldAddr 1 1) .ptr, rg 23 (.load false 1 22) .i, rg 24 (.bin .sub 23 (.const (.int .i64 1))) .i, rg 25 (.minmax false [(.const (.int .i64 16)), 21, 24]) .i, rg 26 (.call k_super_within [19, 25]) .bool, rg 27 (.un .not 26) .bool, rg 17 (.move 27) .bool]) <|
 .cond 17 (.skip) (.reg [rg 28 (.fieldAddr 3 1) .ptr, rg 29 (.load false 1 28) .i, rg 30 (.fieldAddr 1 1) .ptr, rg 31 (.load false 1 30) .i, rg 32 (.call k_super_within [29, 31]) .bool, rg 33 (.un .not 32) .bool, rg 17 (.move 33) .bool])) <|
 .cond 17 (.seq (.reg [rg 2 (.move (.const (.int .i64 3))) .i]) <|
 .ret) (.skip))) <|
 .seq (.reg [rg 2 (.move (.const (.int .i64 0))) .i]) <|
 .ret
noncomputable def sf_super_Config (n : Nat) : Sf := sfOf [(k_super_within, s_super_within n)]
noncomputable def it_super_Config (n : Nat) : It := itOf []
def f_super_Config (n : Nat) (u0 : Value) (h : Heap) : Option ((Int × Unit) × Heap) :=
  bif (cellsOf u0).all isCell then
    (bnd ((Heap.new h (.cells (cellsOf u0) false 0))) fun h0 =>
    (((ldT (.int .i64) h0 (some (fa (nwA h) 0))).bind fun x1 =>
      (f_super_within n x1 64 h0).bind fun p2 =>
      bif (!p2.1.1) then
        (some (((!p2.1.1), ()), p2.2))
      else
        ((ldT (.int .i64) p2.2 (some (fa (nwA h) 1))).bind fun x3 =>
        (f_super_within n (IntKind.i64.wrap (x3 - 1)) 63 p2.2).bind fun p4 =>
        bif (!p4.1.1) then
          (some (((!p4.1.1), ()), p4.2))
        else
          ((ldT (.int .i64) p4.2 (some (fa (nwA h) 4))).bind fun x5 =>
          (f_super_within n x5 8 p4.2).bind fun p6 =>
          some (((!p6.1.1), ()), p6.2)))) : Option ((Bool × Unit) × Heap)).bind fun a7 =>
    bif a7.1.1 then
      (some ((3, ()), a7.2))
    else
      ((((ldT (.int .i64) a7.2 (some (fa (nwA h) 2))).bind fun x8 =>
        (ldT (.int .i64) a7.2 (some (fa (nwA h) 0))).bind fun x9 =>
        (ldT (.int .i64) a7.2 (some (fa (nwA h) 1))).bind fun x10 =>
        (f_super_within n x8 (if (IntKind.i64.wrap (x10 - 1)) < (if x9 < 16 then x9 else 16) then (IntKind.i64.wrap (x10 - 1)) else (if x9 < 16 then x9 else 16)) a7.2).bind fun p11 =>
        bif (!p11.1.1) then
          (some (((!p11.1.1), ()), p11.2))
        else
          ((ldT (.int .i64) p11.2 (some (fa (nwA h) 3))).bind fun x12 =>
          (ldT (.int .i64) p11.2 (some (fa (nwA h) 1))).bind fun x13 =>
          (f_super_within n x12 x13 p11.2).bind fun p14 =>
          some (((!p14.1.1), ()), p14.2))) : Option ((Bool × Unit) × Heap)).bind fun a15 =>
      bif a15.1.1 then
        (some ((3, ()), a15.2))
      else
        (some ((0, ()), a15.2))))
  else
    (none)
def rs_super_Config : Rs := [(.tmp 2, (.int .i64))]
def ps_super_Config : List Ty := [.any]
theorem e_super_Config (n : Nat) (u0 : Value) (h : Heap) : f_super_Config n u0 h = fB (sf_super_Config n) (it_super_Config n) n c2_super_Config rs_super_Config ps_super_Config (u0, ()) h := by kernel_rfl
noncomputable def s_super_Config (n : Nat) : Sf1 := mkSf ps_super_Config rs_super_Config fun a h => f_super_Config n a.1 h
/- wicket/wicketref02.Of -/
def c2_r2_Of : C2 := .seq (.reg [rg 2 (.move (.const (.int .u32 0))) (.int .u32)]) <|
 .seq (.reg [rg 3 (.move (.const (.int .u32 4294967295))) (.int .u32)]) <|
 .seq (.cutn [(3, (.int .u32))] <|
 .seq (.reg [rg 4 (.move (.const (.int .i64 0))) .i]) <|
 .block 0 <|
 .loop [(3, (.int .u32)), (4, .i)] <|
 .seq (.seq (.reg [rg 5 (.move 4) .i, rg 6 (.move 0) .any, rg 7 (.lenS 6) .i, rg 8 (.bin .lss 5 7) .bool]) <|
 .cond 8 (.skip) (.exit 0)) <|
 .seq (.block 1 <|
 .reg [rg 11 (.move 3) (.int .u32), rg 12 (.move 0) .any, rg 13 (.move 4) .i, rg 14 (.idxSlice 1 12 13) .ptr, rg 15 (.load false 1 14) .u, rg 16 (.call k_r2_Push [11, 15]) (.int .u32), rg 3 (.move 16) (.int .u32)]) <|
 .reg [rg 9 (.move 4) .i, rg 10 (.bin .add 9 (.const (.int .i64 1))) .i, rg 4 (.move 10) .i]) <|
 .seq (.reg [rg 17 (.move 3) (.int .u32), rg 18 (.bin .xor 17 (.const (.int .u32 4294967295))) (.int .u32), rg 2 (.move 18) (.int .u32)]) <|
 .ret
def f_r2_Of_L7 (n : Nat) (u0 : Value) (v0 : Int) (v1 : Int) (h2 : Heap) : Option (((Int × Int × Unit) × Heap) ⊕ ((Int × Unit) × Heap)) :=
  (lenB u0).bind fun n3 =>
  bif (decide (v1 < (n3 : Int))) then
    ((ixB 1 u0 v1).bind fun q4 =>
    (ldT (.int .u8) h2 (some q4)).bind fun x5 =>
    (f_r2_Push n v0 x5 h2).bind fun p6 =>
    some (.inl ((p6.1.1, ((IntKind.i64.wrap (v1 + 1)), ())), p6.2)))
  else
    (some (.inr ((v0, ()), h2)))
noncomputable def sf_r2_Of (n : Nat) : Sf := sfOf [(k_r2_Push, s_r2_Push n)]
noncomputable def it_r2_Of (n : Nat) : It := itOf []
def f_r2_Of (n : Nat) (u0 : Value) (h : Heap) : Option ((Int × Unit) × Heap) :=
  ((loopT (fun a => f_r2_Of_L7 n u0 a.1.1 a.1.2.1 a.2) n ((4294967295, (0, ())), h)) : Option ((Int × Unit) × Heap)).bind fun a8 =>
  (bitB .xor .u32 a8.1.1 .u32 4294967295).bind fun x9 =>
  some ((x9, ()), a8.2)
def rs_r2_Of : Rs := [(.tmp 2, (.int .u32))]
def ps_r2_Of : List Ty := [.any]
theorem e_r2_Of (n : Nat) (u0 : Value) (h : Heap) : f_r2_Of n u0 h = fB (sf_r2_Of n) (it_r2_Of n) n c2_r2_Of rs_r2_Of ps_r2_Of (u0, ()) h := by kernel_rfl
noncomputable def s_r2_Of (n : Nat) : Sf1 := mkSf ps_r2_Of rs_r2_Of fun a h => f_r2_Of n a.1 h
end Go.Proofs.YtjdbmfhjccaggaaDoor
