/- The functions at hand as plain typed functions, each with the proof that it is what the abstract machine's code does. -/
import Derived.Test.YtllggdpfdoaigaaDoorB9t
import Derived.KernelRfl
namespace Go.Proofs.YtllggdpfdoaigaaDoor
open Go
set_option linter.unusedVariables false
set_option maxRecDepth 100000
def tab0 : Tab := { g := 0, k := .u32, zs := [0, 498536548, 997073096, 651767980, 1994146192, 1802195444, 1303535960, 1342533948, 3988292384, 4027552580, 3604390888, 3412177804, 2607071920, 2262029012, 2685067896, 3183342108] }
def tab1 : Tab := { g := 1, k := .i64, zs := [1, 1, 1, 1, 1, 1, 1, 3, 8, 8] }
def tabsL : List Tab := [tab0, tab1]
def k_home_New : Nat := 12
def k_home_Save : Nat := 15
def k_home_Load : Nat := 16
def k_super_Encode : Nat := 19
def k_home_has : Nat := 21
def k_super_Check : Nat := 24
def k_home_fits : Nat := 26
def k_super_Config : Nat := 30
def k_var_s_door_gosem_cut_vars_holds_initialisers_alone_see_the_manifest_s_row_cutvarsword_look_11_test_files_too : Nat := 49
def k_var_s_door_the_look_of_gosem_cut_vars_went_over_the_folder_that_the_caller_named_as_the_repository_s_root_look_11 : Nat := 50
def k_var_s_door_sum_halves_is_laid_by_its_own_initialiser_plain_data_look_11 : Nat := 51
def k_var_s_door_super_widths_is_laid_by_its_own_initialiser_plain_data_look_11 : Nat := 52
def k_wicketlaw08_awake : Nat := 5
def k_wicketlaw01_Own : Nat := 6
def k_home_block : Nat := 8
def k_octet_Join : Nat := 9
def k_wicketlaw08_small : Nat := 13
def k_sector_Disk_Len : Nat := 14
def k_octet_may : Nat := 17
def k_sum_push : Nat := 18
def k_sector_Load : Nat := 20
def k_octet_Pad : Nat := 25
def k_sector_Disk_asked : Nat := 27
def k_slices_Clone_byte_byte : Nat := 29
def k_slices_Backward_sector_waiting_sector_waiting_1 : Nat := 31
def k_super_within : Nat := 32
def k_octet_Put : Nat := 10
def k_sum_Of : Nat := 11
def k_sector_Disk_Write : Nat := 22
def k_slices_Backward_sector_waiting_sector_waiting : Nat := 28
def k_home_Encode : Nat := 4
def k_home_Decode : Nat := 7
def k_sector_Disk_Read : Nat := 23
def k_wicketlaw08_HomeTurned : Nat := 3

def f_wicketlaw08_awake (n : Nat) (h : Heap) : Option ((Bool × Unit) × Heap) := yesTB tabsL h
noncomputable def s_wicketlaw08_awake (n : Nat) : Sf1 := mkSf [] [(.tmp 0, .bool)] fun a h => f_wicketlaw08_awake n h
def PrimT_wicketlaw08_awake (T : Nat → Option AFun) : Prop := T k_wicketlaw08_awake = some ⟨[], .skip, some (yesT tabsL)⟩
theorem primOk_wicketlaw08_awake {T : Nat → Option AFun} (hT : PrimT_wicketlaw08_awake T) (n : Nat) : Sf1Ok T k_wicketlaw08_awake (s_wicketlaw08_awake n) := yesT_sf hT

/- wicket/wicketlaw01.Own -/
def c2_wicketlaw01_Own : C2 :=
  .seq (.reg [(⟨(some 2), .move (.const (.slice none 0 0)), none⟩, .any)]) <|
  .seq (.reg [(⟨(some 3), .buildSlice 0 1 [] [], none⟩, .any),
      (⟨(some 4), .move (.tmp 0), none⟩, .any),
      (⟨(some 5), .append 1 1 (.tmp 3) (.tmp 4), none⟩, .any),
      (⟨(some 2), .move (.tmp 5), none⟩, .any)]) <|
  .ret
noncomputable def sf_wicketlaw01_Own (n : Nat) : Sf := sfOf []
noncomputable def it_wicketlaw01_Own (n : Nat) : It := itOf []
def f_wicketlaw01_Own (n : Nat) (u0 : Value) (h : Heap) : Option ((Value × Unit) × Heap) :=
  (fillL [] []).bind fun cs0 =>
  bnd ((Heap.new h (.cells cs0 false 1))) fun h1 =>
  (appendK h1 1 1 (.slice (some ⟨Heap.next h, 0, some 0⟩) 0 0) u0).bind fun p2 =>
  bif !isTuple p2.1 then
    (some ((p2.1, ()), p2.2))
  else
    (none)
def rs_wicketlaw01_Own : Rs := [(.tmp 2, .any)]
def ps_wicketlaw01_Own : List Ty := [.any]
theorem e_wicketlaw01_Own (n : Nat) (u0 : Value) (h : Heap) : f_wicketlaw01_Own n u0 h = fB (sf_wicketlaw01_Own n) (it_wicketlaw01_Own n) n c2_wicketlaw01_Own rs_wicketlaw01_Own ps_wicketlaw01_Own (u0, ()) h := by kernel_rfl
noncomputable def s_wicketlaw01_Own (n : Nat) : Sf1 := mkSf ps_wicketlaw01_Own rs_wicketlaw01_Own fun a h => f_wicketlaw01_Own n a.1 h

/- wicket/home.block -/
def c2_home_block : C2 :=
  .seq (.reg [(⟨(some 2), .move (.const (.bool false)), none⟩, .bool)]) <|
  .seq (.reg [(⟨(some 3), .move (.tmp 0), none⟩, (.int .i64)),
      (⟨(some 4), .bin .geq (.tmp 3) (.const (.int .i64 0)), none⟩, .bool),
      (⟨(some 5), .move (.tmp 4), none⟩, .bool),
      (⟨(some 6), .move (.tmp 0), some (5, true)⟩, (.int .i64)),
      (⟨(some 7), .bin .lss (.tmp 6) (.const (.int .i64 64)), some (5, true)⟩, .bool),
      (⟨(some 8), .pick (.tmp 5) (.tmp 7) (.const (.bool false)), none⟩, .bool),
      (⟨(some 2), .move (.tmp 8), none⟩, .bool)]) <|
  .ret
noncomputable def sf_home_block (n : Nat) : Sf := sfOf []
noncomputable def it_home_block (n : Nat) : It := itOf []
def f_home_block (n : Nat) (u0 : Int) (h : Heap) : Option ((Bool × Unit) × Heap) :=
  bif (decide (0 ≤ u0)) then
    (some (((decide (u0 < 64)), ()), h))
  else
    (some ((false, ()), h))
def rs_home_block : Rs := [(.tmp 2, .bool)]
def ps_home_block : List Ty := [(.int .i64)]
theorem e_home_block (n : Nat) (u0 : Int) (h : Heap) : f_home_block n u0 h = fB (sf_home_block n) (it_home_block n) n c2_home_block rs_home_block ps_home_block (u0, ()) h := by kernel_rfl
noncomputable def s_home_block (n : Nat) : Sf1 := mkSf ps_home_block rs_home_block fun a h => f_home_block n a.1 h

/- wicket/octet.Join -/
def c2_octet_Join : C2 :=
  .seq (.reg [(⟨(some 2), .move (.const (.slice none 0 0)), none⟩, .any)]) <|
  .seq (.reg [(⟨(some 3), .move (.const (.slice none 0 0)), none⟩, .any)]) <|
  .seq (.seq (.reg [(⟨(some 6), .move (.tmp 0), none⟩, .any),
        (⟨(some 7), .lenS (.tmp 6), none⟩, (.int .i64)),
        (⟨(some 8), .move (.const (.int .i64 0)), none⟩, (.int .i64))]) <|
    .block 0 <|
      .loop [(3, .any), (8, (.int .i64))] <|
        .seq (.reg [(⟨(some 9), .bin .lss (.tmp 8) (.tmp 7), none⟩, .any)]) <|
        .seq (.cond (.tmp 9)
            (.skip)
            (.exit 0)) <|
        .seq (.block 1 <|
            .seq (.reg [(⟨(some 10), .idxSlice 1 (.tmp 6) (.tmp 8), none⟩, .ptr),
                (⟨(some 11), .load false 1 (.tmp 10), none⟩, .any),
                (⟨(some 5), .move (.tmp 11), none⟩, .any)]) <|
            .reg [(⟨(some 12), .move (.tmp 3), none⟩, .any),
              (⟨(some 13), .move (.tmp 5), none⟩, .any),
              (⟨(some 14), .append 1 1 (.tmp 12) (.tmp 13), none⟩, .any),
              (⟨(some 3), .move (.tmp 14), none⟩, .any)]) <|
        .reg [(⟨(some 15), .bin .add (.tmp 8) (.const (.int .i64 1)), none⟩, (.int .i64)),
          (⟨(some 8), .move (.tmp 15), none⟩, (.int .i64))]) <|
  .seq (.reg [(⟨(some 16), .move (.tmp 3), none⟩, .any),
      (⟨(some 2), .move (.tmp 16), none⟩, .any)]) <|
  .ret
def f_octet_Join_L7 (n : Nat) (u0 : Value) (n0 : Nat) (v1 : Value) (v2 : Int) (h3 : Heap) : Option (((Value × Int × Unit) × Heap) ⊕ ((Value × Unit) × Heap)) :=
  bif (decide (v2 < (n0 : Int))) then
    ((ixB 1 u0 v2).bind fun q4 =>
    (ldT .any h3 (some q4)).bind fun x5 =>
    (appendK h3 1 1 v1 x5).bind fun p6 =>
    some (.inl ((p6.1, ((IntKind.i64.wrap (v2 + 1)), ())), p6.2)))
  else
    (Option.map Sum.inr (bif !isTuple v1 then
      (some ((v1, ()), h3))
    else
      (none)))
noncomputable def sf_octet_Join (n : Nat) : Sf := sfOf []
noncomputable def it_octet_Join (n : Nat) : It := itOf []
def f_octet_Join (n : Nat) (u0 : Value) (h : Heap) : Option ((Value × Unit) × Heap) :=
  (lenB u0).bind fun n0 =>
  loopT (fun a => f_octet_Join_L7 n u0 n0 a.1.1 a.1.2.1 a.2) n (((.slice none 0 0), (0, ())), h)
def rs_octet_Join : Rs := [(.tmp 2, .any)]
def ps_octet_Join : List Ty := [.any]
theorem e_octet_Join (n : Nat) (u0 : Value) (h : Heap) : f_octet_Join n u0 h = fB (sf_octet_Join n) (it_octet_Join n) n c2_octet_Join rs_octet_Join ps_octet_Join (u0, ()) h := by kernel_rfl
noncomputable def s_octet_Join (n : Nat) : Sf1 := mkSf ps_octet_Join rs_octet_Join fun a h => f_octet_Join n a.1 h

/- wicket/wicketlaw08.small -/
def c2_wicketlaw08_small : C2 :=
  .seq (.reg [(⟨(some 0), .alloc (List.replicate 5 (.int .i64 0)), none⟩, .ptr)]) <|
  .seq (.reg [(⟨(some 1), .build (List.replicate 5 (.int .i64 0)) [(0, 1, (.const (.int .i64 2))), (1, 1, (.const (.int .i64 3))), (2, 1, (.const (.int .i64 1))), (3, 1, (.const (.int .i64 1))), (4, 1, (.const (.int .i64 1)))], none⟩, .any),
      (⟨none, .store 5 (.tmp 0) (.tmp 1), none⟩, .any)]) <|
  .ret
noncomputable def sf_wicketlaw08_small (n : Nat) : Sf := sfOf []
noncomputable def it_wicketlaw08_small (n : Nat) : It := itOf []
def f_wicketlaw08_small (n : Nat)  (h : Heap) : Option ((Value × Unit) × Heap) :=
  bnd ((Heap.new h (.cells (List.replicate 5 (.int .i64 0)) false 0))) fun h0 =>
  (fillL (List.replicate 5 (.int .i64 0)) [(0, 1, (.int .i64 2)), (1, 1, (.int .i64 3)), (2, 1, (.int .i64 1)), (3, 1, (.int .i64 1)), (4, 1, (.int .i64 1))]).bind fun cs1 =>
  (stB 5 (.agg ⟨cs1⟩) h0 (some (nwA h))).bind fun h2 =>
  (ldA 5 h2 (some (nwA h))).bind fun cs3 =>
  some (((.agg ⟨cs3⟩), ()), h2)
def rs_wicketlaw08_small : Rs := [(.cell true 5 0, .any)]
def ps_wicketlaw08_small : List Ty := []
theorem e_wicketlaw08_small (n : Nat)  (h : Heap) : f_wicketlaw08_small n h = fB (sf_wicketlaw08_small n) (it_wicketlaw08_small n) n c2_wicketlaw08_small rs_wicketlaw08_small ps_wicketlaw08_small () h := by kernel_rfl
noncomputable def s_wicketlaw08_small (n : Nat) : Sf1 := mkSf ps_wicketlaw08_small rs_wicketlaw08_small fun a h => f_wicketlaw08_small n h

/- (*wicket/sector.Disk).Len -/
def c2_sector_Disk_Len : C2 :=
  .seq (.reg [(⟨(some 2), .move (.const (.int .i64 0)), none⟩, (.int .i64))]) <|
  .seq (.seq (.reg [(⟨(some 3), .move (.tmp 0), none⟩, .ptr),
        (⟨(some 4), .eqv false .ptr (.tmp 3) (.const (.pointer none)), none⟩, .bool)]) <|
    .cond (.tmp 4)
      (.seq (.reg [(⟨(some 2), .move (.const (.int .i64 0)), none⟩, (.int .i64))]) <|
      .ret)
      (.skip)) <|
  .seq (.reg [(⟨(some 5), .move (.tmp 0), none⟩, .ptr),
      (⟨(some 6), .nilCheck (.tmp 5), none⟩, .ptr),
      (⟨(some 7), .fieldAddr 0 (.tmp 6), none⟩, .ptr),
      (⟨(some 8), .load false 1 (.tmp 7), none⟩, .any),
      (⟨(some 9), .lenS (.tmp 8), none⟩, (.int .i64)),
      (⟨(some 2), .move (.tmp 9), none⟩, (.int .i64))]) <|
  .ret
noncomputable def sf_sector_Disk_Len (n : Nat) : Sf := sfOf []
noncomputable def it_sector_Disk_Len (n : Nat) : It := itOf []
def f_sector_Disk_Len (n : Nat) (u0 : Option Addr) (h : Heap) : Option ((Int × Unit) × Heap) :=
  bif (Option.isNone u0) then
    (some ((0, ()), h))
  else
    ((u0).bind fun q0 =>
    (ldT .any h (some (fa q0 0))).bind fun x1 =>
    (lenB x1).bind fun n2 =>
    some (((n2 : Int), ()), h))
def rs_sector_Disk_Len : Rs := [(.tmp 2, (.int .i64))]
def ps_sector_Disk_Len : List Ty := [.ptr]
theorem e_sector_Disk_Len (n : Nat) (u0 : Option Addr) (h : Heap) : f_sector_Disk_Len n u0 h = fB (sf_sector_Disk_Len n) (it_sector_Disk_Len n) n c2_sector_Disk_Len rs_sector_Disk_Len ps_sector_Disk_Len (u0, ()) h := by kernel_rfl
noncomputable def s_sector_Disk_Len (n : Nat) : Sf1 := mkSf ps_sector_Disk_Len rs_sector_Disk_Len fun a h => f_sector_Disk_Len n a.1 h

/- wicket/octet.may -/
def c2_octet_may : C2 :=
  .seq (.reg [(⟨(some 2), .move (.const (.bool false)), none⟩, .bool)]) <|
  .seq (.reg [(⟨(some 3), .move (.tmp 0), none⟩, (.int .i64)),
      (⟨(some 4), .bin .geq (.tmp 3) (.const (.int .i64 1)), none⟩, .bool),
      (⟨(some 5), .move (.tmp 4), none⟩, .bool),
      (⟨(some 6), .move (.tmp 0), some (5, true)⟩, (.int .i64)),
      (⟨(some 7), .bin .leq (.tmp 6) (.const (.int .i64 8)), some (5, true)⟩, .bool),
      (⟨(some 8), .pick (.tmp 5) (.tmp 7) (.const (.bool false)), none⟩, .bool),
      (⟨(some 2), .move (.tmp 8), none⟩, .bool)]) <|
  .ret
noncomputable def sf_octet_may (n : Nat) : Sf := sfOf []
noncomputable def it_octet_may (n : Nat) : It := itOf []
def f_octet_may (n : Nat) (u0 : Int) (h : Heap) : Option ((Bool × Unit) × Heap) :=
  bif (decide (1 ≤ u0)) then
    (some (((decide (u0 ≤ 8)), ()), h))
  else
    (some ((false, ()), h))
def rs_octet_may : Rs := [(.tmp 2, .bool)]
def ps_octet_may : List Ty := [(.int .i64)]
theorem e_octet_may (n : Nat) (u0 : Int) (h : Heap) : f_octet_may n u0 h = fB (sf_octet_may n) (it_octet_may n) n c2_octet_may rs_octet_may ps_octet_may (u0, ()) h := by kernel_rfl
noncomputable def s_octet_may (n : Nat) : Sf1 := mkSf ps_octet_may rs_octet_may fun a h => f_octet_may n a.1 h

/- wicket/sum.push -/
def c2_sum_push : C2 :=
  .seq (.reg [(⟨(some 4), .move (.const (.int .u32 0)), none⟩, (.int .u32))]) <|
  .seq (.reg [(⟨(some 5), .move (.tmp 0), none⟩, (.int .u32)),
      (⟨(some 6), .move (.tmp 1), none⟩, (.int .u8)),
      (⟨(some 7), .conv .u32 (.tmp 6), none⟩, (.int .u32)),
      (⟨(some 8), .bin .xor (.tmp 5) (.tmp 7), none⟩, (.int .u32)),
      (⟨(some 0), .move (.tmp 8), none⟩, (.int .u32))]) <|
  .seq (.reg [(⟨(some 9), .move (.tmp 0), none⟩, (.int .u32)),
      (⟨(some 10), .bin .and (.tmp 9) (.const (.int .u32 15)), none⟩, (.int .u32)),
      (⟨(some 11), .idxArr 16 1 (.global 0) (.tmp 10), none⟩, .ptr),
      (⟨(some 12), .load false 1 (.tmp 11), none⟩, (.int .u32)),
      (⟨(some 13), .move (.tmp 0), none⟩, (.int .u32)),
      (⟨(some 14), .bin .shr (.tmp 13) (.const (.int .u64 4)), none⟩, (.int .u32)),
      (⟨(some 15), .bin .xor (.tmp 12) (.tmp 14), none⟩, (.int .u32)),
      (⟨(some 0), .move (.tmp 15), none⟩, (.int .u32))]) <|
  .seq (.reg [(⟨(some 16), .move (.tmp 0), none⟩, (.int .u32)),
      (⟨(some 17), .bin .and (.tmp 16) (.const (.int .u32 15)), none⟩, (.int .u32)),
      (⟨(some 18), .idxArr 16 1 (.global 0) (.tmp 17), none⟩, .ptr),
      (⟨(some 19), .load false 1 (.tmp 18), none⟩, (.int .u32)),
      (⟨(some 20), .move (.tmp 0), none⟩, (.int .u32)),
      (⟨(some 21), .bin .shr (.tmp 20) (.const (.int .u64 4)), none⟩, (.int .u32)),
      (⟨(some 22), .bin .xor (.tmp 19) (.tmp 21), none⟩, (.int .u32)),
      (⟨(some 4), .move (.tmp 22), none⟩, (.int .u32))]) <|
  .ret
noncomputable def sf_sum_push (n : Nat) : Sf := sfOf []
noncomputable def it_sum_push (n : Nat) : It := itOf []
def f_sum_push (n : Nat) (u0 : Int) (u1 : Int) (h : Heap) : Option ((Int × Unit) × Heap) :=
  (bitB .xor .u32 u0 .u32 (IntKind.u32.wrap (u1))).bind fun x0 =>
  (bitB .and .u32 x0 .u32 15).bind fun x1 =>
  (ixA 16 1 (some ⟨0, 0, none⟩) x1).bind fun q2 =>
  (ldT (.int .u32) h (some q2)).bind fun x3 =>
  (bitB .shr .u32 x0 .u64 4).bind fun x4 =>
  (bitB .xor .u32 x3 .u32 x4).bind fun x5 =>
  (bitB .and .u32 x5 .u32 15).bind fun x6 =>
  (ixA 16 1 (some ⟨0, 0, none⟩) x6).bind fun q7 =>
  (ldT (.int .u32) h (some q7)).bind fun x8 =>
  (bitB .shr .u32 x5 .u64 4).bind fun x9 =>
  (bitB .xor .u32 x8 .u32 x9).bind fun x10 =>
  some ((x10, ()), h)
def rs_sum_push : Rs := [(.tmp 4, (.int .u32))]
def ps_sum_push : List Ty := [(.int .u32), (.int .u8)]
theorem e_sum_push (n : Nat) (u0 : Int) (u1 : Int) (h : Heap) : f_sum_push n u0 u1 h = fB (sf_sum_push n) (it_sum_push n) n c2_sum_push rs_sum_push ps_sum_push (u0, (u1, ())) h := by kernel_rfl
noncomputable def s_sum_push (n : Nat) : Sf1 := mkSf ps_sum_push rs_sum_push fun a h => f_sum_push n a.1 a.2.1 h

/- wicket/sector.Load -/
def c2_sector_Load : C2 :=
  .seq (.reg [(⟨(some 2), .move (.const (.pointer none)), none⟩, .ptr),
      (⟨(some 3), .move (.const (.int .i64 0)), none⟩, (.int .i64))]) <|
  .seq (.reg [(⟨(some 7), .move (.tmp 0), none⟩, .any),
      (⟨(some 8), .lenS (.tmp 7), none⟩, (.int .i64)),
      (⟨(some 9), .bin .quo (.tmp 8) (.const (.int .i64 64)), none⟩, (.int .i64)),
      (⟨(some 4), .move (.tmp 9), none⟩, (.int .i64))]) <|
  .seq (.seq (.cutn [(21, .bool)] <|
        .reg [(⟨(some 10), .move (.tmp 4), none⟩, (.int .i64)),
          (⟨(some 11), .bin .lss (.tmp 10) (.const (.int .i64 1)), none⟩, .bool),
          (⟨(some 12), .move (.tmp 11), none⟩, .bool),
          (⟨(some 13), .move (.tmp 4), some (12, false)⟩, (.int .i64)),
          (⟨(some 14), .bin .gtr (.tmp 13) (.const (.int .i64 4096)), some (12, false)⟩, .bool),
          (⟨(some 15), .pick (.tmp 12) (.const (.bool true)) (.tmp 14), none⟩, .bool),
          (⟨(some 16), .move (.tmp 15), none⟩, .bool),
          (⟨(some 17), .move (.tmp 0), some (16, false)⟩, .any),
          (⟨(some 18), .lenS (.tmp 17), some (16, false)⟩, (.int .i64)),
          (⟨(some 19), .bin .rem (.tmp 18) (.const (.int .i64 64)), some (16, false)⟩, (.int .i64)),
          (⟨(some 20), .bin .neq (.tmp 19) (.const (.int .i64 0)), some (16, false)⟩, .bool),
          (⟨(some 21), .pick (.tmp 16) (.const (.bool true)) (.tmp 20), none⟩, .bool)]) <|
    .cond (.tmp 21)
      (.seq (.reg [(⟨(some 2), .move (.const (.pointer none)), none⟩, .ptr),
          (⟨(some 3), .move (.const (.int .i64 2)), none⟩, (.int .i64))]) <|
      .ret)
      (.skip)) <|
  .seq (.reg [(⟨(some 22), .move (.tmp 4), none⟩, (.int .i64)),
      (⟨(some 23), .makeSlice 64 64 (List.replicate 64 (.int .u8 0)) (.tmp 22) (.tmp 22), none⟩, .any),
      (⟨(some 24), .build [(.slice none 0 0), (.slice none 0 0)] [(0, 1, (.tmp 23))], none⟩, .any),
      (⟨(some 25), .box (.tmp 24), none⟩, .ptr),
      (⟨(some 5), .move (.tmp 25), none⟩, .ptr)]) <|
  .seq (.cutn [] <|
      .seq (.reg [(⟨(some 26), .move (.tmp 5), none⟩, .ptr),
          (⟨(some 27), .nilCheck (.tmp 26), none⟩, .ptr),
          (⟨(some 28), .fieldAddr 0 (.tmp 27), none⟩, .ptr),
          (⟨(some 29), .load false 1 (.tmp 28), none⟩, .any),
          (⟨(some 30), .lenS (.tmp 29), none⟩, (.int .i64)),
          (⟨(some 31), .move (.const (.int .i64 0)), none⟩, (.int .i64))]) <|
      .block 0 <|
        .loop [(31, (.int .i64))] <|
          .seq (.reg [(⟨(some 32), .bin .lss (.tmp 31) (.tmp 30), none⟩, .any)]) <|
          .seq (.cond (.tmp 32)
              (.skip)
              (.exit 0)) <|
          .seq (.block 1 <|
              .seq (.reg [(⟨(some 33), .move (.tmp 31), none⟩, (.int .i64)),
                  (⟨(some 6), .move (.tmp 33), none⟩, (.int .i64))]) <|
              .regd [(⟨0, [], false, ⟨(some 34), .move (.tmp 5), none⟩⟩, .ptr),
                (⟨1, [0], false, ⟨(some 35), .nilCheck (.tmp 34), none⟩⟩, .ptr),
                (⟨2, [1, 0], false, ⟨(some 36), .fieldAddr 0 (.tmp 35), none⟩⟩, .ptr),
                (⟨3, [2, 1, 0], false, ⟨(some 37), .load false 1 (.tmp 36), none⟩⟩, .any),
                (⟨4, [], false, ⟨(some 38), .move (.tmp 6), none⟩⟩, (.int .i64)),
                (⟨5, [], false, ⟨(some 39), .move (.tmp 0), none⟩⟩, .any),
                (⟨6, [], false, ⟨(some 40), .move (.tmp 6), none⟩⟩, (.int .i64)),
                (⟨7, [6], false, ⟨(some 41), .bin .mul (.tmp 40) (.const (.int .i64 64)), none⟩⟩, (.int .i64)),
                (⟨8, [], false, ⟨(some 42), .move (.tmp 6), none⟩⟩, (.int .i64)),
                (⟨9, [8], false, ⟨(some 43), .bin .add (.tmp 42) (.const (.int .i64 1)), none⟩⟩, (.int .i64)),
                (⟨10, [9, 8], false, ⟨(some 44), .bin .mul (.tmp 43) (.const (.int .i64 64)), none⟩⟩, (.int .i64)),
                (⟨11, [5, 7, 10, 6, 9, 8], false, ⟨(some 45), .slice 1 (.tmp 39) (some (.tmp 41)) (some (.tmp 44)) none, none⟩⟩, .any),
                (⟨12, [11, 5, 7, 10, 6, 9, 8], false, ⟨(some 46), .arrAt 64 (.tmp 45), none⟩⟩, .ptr),
                (⟨13, [12, 11, 5, 7, 10, 6, 9, 8], false, ⟨(some 47), .load true 64 (.tmp 46), none⟩⟩, .any),
                (⟨14, [3, 4, 0, 1, 2, 5, 6, 7, 8, 9, 10, 11, 12, 13], false, ⟨(some 48), .idxSlice 64 (.tmp 37) (.tmp 38), none⟩⟩, .ptr),
                (⟨15, [14, 13, 0, 1, 2, 3, 4, 5, 6, 7, 8, 9, 10, 11, 12], true, ⟨none, .store 64 (.tmp 48) (.tmp 47), none⟩⟩, .any)]) <|
          .reg [(⟨(some 49), .bin .add (.tmp 31) (.const (.int .i64 1)), none⟩, (.int .i64)),
            (⟨(some 31), .move (.tmp 49), none⟩, (.int .i64))]) <|
  .seq (.reg [(⟨(some 50), .move (.tmp 5), none⟩, .ptr),
      (⟨(some 2), .move (.tmp 50), none⟩, .ptr),
      (⟨(some 3), .move (.const (.int .i64 0)), none⟩, (.int .i64))]) <|
  .ret
def f_sector_Load_L17 (n : Nat) (u0 : Value) (h4 : Heap) (n8 : Nat) (v9 : Int) (h10 : Heap) : Option (((Int × Unit) × Heap) ⊕ ((Unit) × Heap)) :=
  bif (decide (v9 < (n8 : Int))) then
    ((ldT .any h10 (some (fa (nwA h4) 0))).bind fun x11 =>
    (sliceK h10 1 (some (.int .i64 (IntKind.i64.wrap (v9 * 64)))) (some (.int .i64 (IntKind.i64.wrap ((IntKind.i64.wrap (v9 + 1)) * 64)))) none u0).bind fun p12 =>
    (arrB h10 64 p12.1).bind fun q13 =>
    (ldA 64 h10 q13).bind fun cs14 =>
    (ixB 64 x11 v9).bind fun q15 =>
    (stB 64 (.agg ⟨cs14⟩) h10 (some q15)).bind fun h16 =>
    some (.inl (((IntKind.i64.wrap (v9 + 1)), ()), h16)))
  else
    (some (.inr ((), h10)))
noncomputable def sf_sector_Load (n : Nat) : Sf := sfOf []
noncomputable def it_sector_Load (n : Nat) : It := itOf []
def f_sector_Load (n : Nat) (u0 : Value) (h : Heap) : Option ((Option Addr × Int × Unit) × Heap) :=
  (lenB u0).bind fun n0 =>
  ((bif (decide ((IntKind.i64.wrap (Int.tdiv (n0 : Int) 64)) < 1)) then
      (some ((true, ()), h))
    else
      (bif (decide (4096 < (IntKind.i64.wrap (Int.tdiv (n0 : Int) 64)))) then
        (some ((true, ()), h))
      else
        ((lenB u0).bind fun n1 =>
        some (((!decide ((Int.tmod (n1 : Int) 64) = 0)), ()), h)))) : Option ((Bool × Unit) × Heap)).bind fun a2 =>
  bif a2.1.1 then
    (some ((none, (2, ())), a2.2))
  else
    ((mkSl (Heap.next a2.2) 64 64 (List.replicate 64 (.int .u8 0)) (.int .i64 (IntKind.i64.wrap (Int.tdiv (n0 : Int) 64))) (.int .i64 (IntKind.i64.wrap (Int.tdiv (n0 : Int) 64)))).bind fun p3 =>
    bnd ((Heap.new a2.2 (p3.2))) fun h4 =>
    (fillL [(.slice none 0 0), (.slice none 0 0)] [(0, 1, p3.1)]).bind fun cs5 =>
    bif (cs5 : List Value).all isCell then
      (bnd ((Heap.new h4 (.cells cs5 false 0))) fun h6 =>
      (((ldT .any h6 (some (fa (nwA h4) 0))).bind fun x7 =>
        (lenB x7).bind fun n8 =>
        loopT (fun a => f_sector_Load_L17 n u0 h4 n8 a.1.1 a.2) n ((0, ()), h6)) : Option ((Unit) × Heap)).bind fun a18 =>
      some (((some (nwA h4)), (0, ())), a18.2))
    else
      (none))
def rs_sector_Load : Rs := [(.tmp 2, .ptr), (.tmp 3, (.int .i64))]
def ps_sector_Load : List Ty := [.any]
theorem e_sector_Load (n : Nat) (u0 : Value) (h : Heap) : f_sector_Load n u0 h = fB (sf_sector_Load n) (it_sector_Load n) n c2_sector_Load rs_sector_Load ps_sector_Load (u0, ()) h := by kernel_rfl
noncomputable def s_sector_Load (n : Nat) : Sf1 := mkSf ps_sector_Load rs_sector_Load fun a h => f_sector_Load n a.1 h

/- wicket/octet.Pad -/
def c2_octet_Pad : C2 :=
  .seq (.reg [(⟨(some 4), .move (.const (.slice none 0 0)), none⟩, .any),
      (⟨(some 5), .move (.const (.int .i64 0)), none⟩, (.int .i64))]) <|
  .seq (.block 0 <|
      .seq (.cutn [(6, .bool)] <|
          .reg [(⟨(some 7), .move (.tmp 1), none⟩, (.int .i64)),
            (⟨(some 8), .bin .lss (.tmp 7) (.const (.int .i64 0)), none⟩, .bool),
            (⟨(some 9), .move (.tmp 8), none⟩, .bool),
            (⟨(some 10), .move (.tmp 1), some (9, false)⟩, (.int .i64)),
            (⟨(some 11), .bin .gtr (.tmp 10) (.const (.int .i64 64)), some (9, false)⟩, .bool),
            (⟨(some 12), .pick (.tmp 9) (.const (.bool true)) (.tmp 11), none⟩, .bool),
            (⟨(some 6), .move (.tmp 12), none⟩, .bool)]) <|
      .cond (.tmp 6)
        (.seq (.reg [(⟨(some 4), .move (.const (.slice none 0 0)), none⟩, .any),
            (⟨(some 5), .move (.const (.int .i64 2)), none⟩, (.int .i64))]) <|
        .ret)
        (.seq (.reg [(⟨(some 14), .move (.tmp 0), none⟩, .any),
            (⟨(some 15), .lenS (.tmp 14), none⟩, (.int .i64)),
            (⟨(some 16), .move (.tmp 1), none⟩, (.int .i64)),
            (⟨(some 17), .bin .gtr (.tmp 15) (.tmp 16), none⟩, .bool),
            (⟨(some 13), .move (.tmp 17), none⟩, .bool)]) <|
        .cond (.tmp 13)
          (.seq (.reg [(⟨(some 4), .move (.const (.slice none 0 0)), none⟩, .any),
              (⟨(some 5), .move (.const (.int .i64 10)), none⟩, (.int .i64))]) <|
          .ret)
          (.skip))) <|
  .seq (.reg [(⟨(some 18), .move (.tmp 0), none⟩, .any),
      (⟨(some 19), .move (.tmp 1), none⟩, (.int .i64)),
      (⟨(some 20), .move (.tmp 0), none⟩, .any),
      (⟨(some 21), .lenS (.tmp 20), none⟩, (.int .i64)),
      (⟨(some 22), .bin .sub (.tmp 19) (.tmp 21), none⟩, (.int .i64)),
      (⟨(some 23), .makeSlice 1 1 [(.int .u8 0)] (.tmp 22) (.tmp 22), none⟩, .any),
      (⟨(some 24), .buildSlice 2 1 [(.slice none 0 0), (.slice none 0 0)] [(0, 1, (.tmp 18)), (1, 1, (.tmp 23))], none⟩, .any),
      (⟨(some 25), .call k_octet_Join [(.tmp 24)], none⟩, .any),
      (⟨(some 4), .move (.tmp 25), none⟩, .any),
      (⟨(some 5), .move (.const (.int .i64 0)), none⟩, (.int .i64))]) <|
  .ret
noncomputable def sf_octet_Pad (n : Nat) : Sf := sfOf [(k_octet_Join, s_octet_Join n)]
noncomputable def it_octet_Pad (n : Nat) : It := itOf []
def f_octet_Pad (n : Nat) (u0 : Value) (u1 : Int) (h : Heap) : Option ((Value × Int × Unit) × Heap) :=
  ((bif (decide (u1 < 0)) then
      (some ((true, ()), h))
    else
      (some (((decide (64 < u1)), ()), h))) : Option ((Bool × Unit) × Heap)).bind fun a0 =>
  bif a0.1.1 then
    (some (((.slice none 0 0), (2, ())), a0.2))
  else
    ((lenB u0).bind fun n1 =>
    bif (decide (u1 < (n1 : Int))) then
      (some (((.slice none 0 0), (10, ())), a0.2))
    else
      ((lenB u0).bind fun n2 =>
      (mkSl (Heap.next a0.2) 1 1 [(.int .u8 0)] (.int .i64 (IntKind.i64.wrap (u1 - (n2 : Int)))) (.int .i64 (IntKind.i64.wrap (u1 - (n2 : Int))))).bind fun p3 =>
      bnd ((Heap.new a0.2 (p3.2))) fun h4 =>
      (fillL [(.slice none 0 0), (.slice none 0 0)] [(0, 1, u0), (1, 1, p3.1)]).bind fun cs5 =>
      bnd ((Heap.new h4 (.cells cs5 false 1))) fun h6 =>
      (f_octet_Join n (.slice (some ⟨Heap.next h4, 0, some 0⟩) 2 2) h6).bind fun p7 =>
      bif !isTuple p7.1.1 then
        (some ((p7.1.1, (0, ())), p7.2))
      else
        (none)))
def rs_octet_Pad : Rs := [(.tmp 4, .any), (.tmp 5, (.int .i64))]
def ps_octet_Pad : List Ty := [.any, (.int .i64)]
theorem e_octet_Pad (n : Nat) (u0 : Value) (u1 : Int) (h : Heap) : f_octet_Pad n u0 u1 h = fB (sf_octet_Pad n) (it_octet_Pad n) n c2_octet_Pad rs_octet_Pad ps_octet_Pad (u0, (u1, ())) h := by kernel_rfl
noncomputable def s_octet_Pad (n : Nat) : Sf1 := mkSf ps_octet_Pad rs_octet_Pad fun a h => f_octet_Pad n a.1 a.2.1 h

/- (*wicket/sector.Disk).asked -/
def c2_sector_Disk_asked : C2 :=
  .seq (.reg [(⟨(some 4), .move (.const (.int .i64 0)), none⟩, (.int .i64))]) <|
  .seq (.block 0 <|
      .seq (.reg [(⟨(some 6), .move (.tmp 0), none⟩, .ptr),
          (⟨(some 7), .eqv false .ptr (.tmp 6) (.const (.pointer none)), none⟩, .bool),
          (⟨(some 5), .move (.tmp 7), none⟩, .bool)]) <|
      .cond (.tmp 5)
        (.seq (.reg [(⟨(some 4), .move (.const (.int .i64 1)), none⟩, (.int .i64))]) <|
        .ret)
        (.seq (.cutn [(8, .bool)] <|
            .reg [(⟨(some 9), .move (.tmp 1), none⟩, (.int .i64)),
              (⟨(some 10), .bin .lss (.tmp 9) (.const (.int .i64 0)), none⟩, .bool),
              (⟨(some 11), .move (.tmp 10), none⟩, .bool),
              (⟨(some 12), .move (.tmp 1), some (11, false)⟩, (.int .i64)),
              (⟨(some 13), .move (.tmp 0), some (11, false)⟩, .ptr),
              (⟨(some 14), .nilCheck (.tmp 13), some (11, false)⟩, .ptr),
              (⟨(some 15), .fieldAddr 0 (.tmp 14), some (11, false)⟩, .ptr),
              (⟨(some 16), .load false 1 (.tmp 15), some (11, false)⟩, .any),
              (⟨(some 17), .lenS (.tmp 16), some (11, false)⟩, (.int .i64)),
              (⟨(some 18), .bin .geq (.tmp 12) (.tmp 17), some (11, false)⟩, .bool),
              (⟨(some 19), .pick (.tmp 11) (.const (.bool true)) (.tmp 18), none⟩, .bool),
              (⟨(some 8), .move (.tmp 19), none⟩, .bool)]) <|
        .cond (.tmp 8)
          (.seq (.reg [(⟨(some 4), .move (.const (.int .i64 40)), none⟩, (.int .i64))]) <|
          .ret)
          (.skip))) <|
  .seq (.reg [(⟨(some 4), .move (.const (.int .i64 0)), none⟩, (.int .i64))]) <|
  .ret
noncomputable def sf_sector_Disk_asked (n : Nat) : Sf := sfOf []
noncomputable def it_sector_Disk_asked (n : Nat) : It := itOf []
def f_sector_Disk_asked (n : Nat) (u0 : Option Addr) (u1 : Int) (h : Heap) : Option ((Int × Unit) × Heap) :=
  bif (Option.isNone u0) then
    (some ((1, ()), h))
  else
    (((bif (decide (u1 < 0)) then
        (some ((true, ()), h))
      else
        ((u0).bind fun q0 =>
        (ldT .any h (some (fa q0 0))).bind fun x1 =>
        (lenB x1).bind fun n2 =>
        some (((decide ((n2 : Int) ≤ u1)), ()), h))) : Option ((Bool × Unit) × Heap)).bind fun a3 =>
    bif a3.1.1 then
      (some ((40, ()), a3.2))
    else
      (some ((0, ()), a3.2)))
def rs_sector_Disk_asked : Rs := [(.tmp 4, (.int .i64))]
def ps_sector_Disk_asked : List Ty := [.ptr, (.int .i64)]
theorem e_sector_Disk_asked (n : Nat) (u0 : Option Addr) (u1 : Int) (h : Heap) : f_sector_Disk_asked n u0 u1 h = fB (sf_sector_Disk_asked n) (it_sector_Disk_asked n) n c2_sector_Disk_asked rs_sector_Disk_asked ps_sector_Disk_asked (u0, (u1, ())) h := by kernel_rfl
noncomputable def s_sector_Disk_asked (n : Nat) : Sf1 := mkSf ps_sector_Disk_asked rs_sector_Disk_asked fun a h => f_sector_Disk_asked n a.1 a.2.1 h

/- slices.Clone[[]byte,byte] -/
def c2_slices_Clone_byte_byte : C2 :=
  .seq (.reg [(⟨(some 2), .move (.const (.slice none 0 0)), none⟩, .any)]) <|
  .seq (.seq (.reg [(⟨(some 3), .move (.tmp 0), none⟩, .any),
        (⟨(some 4), .eqv false .slice (.tmp 3) (.const (.slice none 0 0)), none⟩, .bool)]) <|
    .cond (.tmp 4)
      (.seq (.reg [(⟨(some 2), .move (.const (.slice none 0 0)), none⟩, .any)]) <|
      .ret)
      (.skip)) <|
  .seq (.reg [(⟨(some 5), .buildSlice 0 1 [] [], none⟩, .any),
      (⟨(some 6), .move (.tmp 0), none⟩, .any),
      (⟨(some 7), .append 1 1 (.tmp 5) (.tmp 6), none⟩, .any),
      (⟨(some 2), .move (.tmp 7), none⟩, .any)]) <|
  .ret
noncomputable def sf_slices_Clone_byte_byte (n : Nat) : Sf := sfOf []
noncomputable def it_slices_Clone_byte_byte (n : Nat) : It := itOf []
def f_slices_Clone_byte_byte (n : Nat) (u0 : Value) (h : Heap) : Option ((Value × Unit) × Heap) :=
  (eqVals h .slice u0 (.slice none 0 0)).bind fun b0 =>
  bif b0 then
    (some (((.slice none 0 0), ()), h))
  else
    ((fillL [] []).bind fun cs1 =>
    bnd ((Heap.new h (.cells cs1 false 1))) fun h2 =>
    (appendK h2 1 1 (.slice (some ⟨Heap.next h, 0, some 0⟩) 0 0) u0).bind fun p3 =>
    bif !isTuple p3.1 then
      (some ((p3.1, ()), p3.2))
    else
      (none))
def rs_slices_Clone_byte_byte : Rs := [(.tmp 2, .any)]
def ps_slices_Clone_byte_byte : List Ty := [.any]
theorem e_slices_Clone_byte_byte (n : Nat) (u0 : Value) (h : Heap) : f_slices_Clone_byte_byte n u0 h = fB (sf_slices_Clone_byte_byte n) (it_slices_Clone_byte_byte n) n c2_slices_Clone_byte_byte rs_slices_Clone_byte_byte ps_slices_Clone_byte_byte (u0, ()) h := by kernel_rfl
noncomputable def s_slices_Clone_byte_byte (n : Nat) : Sf1 := mkSf ps_slices_Clone_byte_byte rs_slices_Clone_byte_byte fun a h => f_slices_Clone_byte_byte n a.1 h

/- slices.Backward[[]wicket/sector.waiting,wicket/sector.waiting]$1 -/
def c2_slices_Backward_sector_waiting_sector_waiting_1 : C2 :=
  .seq (.reg [(⟨(some 4), .load false 1 (.tmp 1), none⟩, .any),
      (⟨(some 5), .lenS (.tmp 4), none⟩, (.int .i64)),
      (⟨(some 6), .bin .sub (.tmp 5) (.const (.int .i64 1)), none⟩, (.int .i64)),
      (⟨(some 3), .move (.tmp 6), none⟩, (.int .i64))]) <|
  .block 0 <|
    .loop [(3, (.int .i64))] <|
      .seq (.seq (.reg [(⟨(some 7), .move (.tmp 3), none⟩, (.int .i64)),
            (⟨(some 8), .bin .geq (.tmp 7) (.const (.int .i64 0)), none⟩, .bool)]) <|
        .cond (.tmp 8)
          (.skip)
          (.exit 0)) <|
      .seq (.block 1 <|
          .seq (.reg [(⟨(some 11), .move (.tmp 0), none⟩, .any),
              (⟨(some 12), .move (.tmp 3), none⟩, (.int .i64)),
              (⟨(some 13), .load false 1 (.tmp 1), none⟩, .any),
              (⟨(some 14), .move (.tmp 3), none⟩, (.int .i64)),
              (⟨(some 15), .idxSlice 65 (.tmp 13) (.tmp 14), none⟩, .ptr),
              (⟨(some 16), .load true 65 (.tmp 15), none⟩, .any),
              (⟨(some 17), .callv (.tmp 11) [(.tmp 12), (.tmp 16)], none⟩, .bool),
              (⟨(some 18), .un .not (.tmp 17), none⟩, .bool)]) <|
          .cond (.tmp 18)
            (.ret)
            (.skip)) <|
      .reg [(⟨(some 9), .move (.tmp 3), none⟩, (.int .i64)),
        (⟨(some 10), .bin .sub (.tmp 9) (.const (.int .i64 1)), none⟩, (.int .i64)),
        (⟨(some 3), .move (.tmp 10), none⟩, (.int .i64))]
def f_slices_Backward_sector_waiting_sector_waiting_1_L8 {V : Type} (hp : V → Heap) (up : V → Heap → V) (y : (Int × Value × Unit) → V → Option (Bool × V)) (n : Nat) (u0 : Option Addr) (v2 : Int) (w3 : V) : Option (((Int × Unit) × V) ⊕ (V)) :=
  bif (decide (0 ≤ v2)) then
    ((ldT .any (hp w3) u0).bind fun x4 =>
    (ixB 65 x4 v2).bind fun q5 =>
    (ldA 65 (hp w3) (some q5)).bind fun cs6 =>
    (y (v2, ((.agg ⟨cs6⟩), ())) w3).bind fun p7 =>
    bif (!p7.1) then
      (some (.inr p7.2))
    else
      (some (.inl (((IntKind.i64.wrap (v2 - 1)), ()), p7.2))))
  else
    (some (.inr w3))
noncomputable def sf_slices_Backward_sector_waiting_sector_waiting_1 (n : Nat) : Sf := sfOf []
noncomputable def it_slices_Backward_sector_waiting_sector_waiting_1 (n : Nat) : It := itOf []
def f_slices_Backward_sector_waiting_sector_waiting_1 {V : Type} (hp : V → Heap) (up : V → Heap → V) (y : (Int × Value × Unit) → V → Option (Bool × V)) (n : Nat) (u0 : Option Addr) (w : V) : Option V :=
  (ldT .any (hp w) u0).bind fun x0 =>
  (lenB x0).bind fun n1 =>
  loopT (fun a => f_slices_Backward_sector_waiting_sector_waiting_1_L8 hp up y n u0 a.1.1 a.2) n (((IntKind.i64.wrap ((n1 : Int) - 1)), ()), w)
theorem e_slices_Backward_sector_waiting_sector_waiting_1 {V : Type} (hp : V → Heap) (up : V → Heap → V) (y : (Int × Value × Unit) → V → Option (Bool × V)) (n : Nat) (u0 : Option Addr) (w : V) : f_slices_Backward_sector_waiting_sector_waiting_1 hp up y n u0 w = fI (sf_slices_Backward_sector_waiting_sector_waiting_1 n) (it_slices_Backward_sector_waiting_sector_waiting_1 n) n c2_slices_Backward_sector_waiting_sector_waiting_1 [] [.ptr] [(.int .i64), .any] hp up y () (u0, ()) w := by kernel_rfl
noncomputable def i_slices_Backward_sector_waiting_sector_waiting_1 (n : Nat) : It1 := mkIt [] [.ptr] [(.int .i64), .any] fun hp up y _ a2 v => f_slices_Backward_sector_waiting_sector_waiting_1 hp up y n a2.1 v

/- wicket/super.within -/
def c2_super_within : C2 :=
  .seq (.reg [(⟨(some 4), .move (.const (.bool false)), none⟩, .bool)]) <|
  .seq (.reg [(⟨(some 5), .move (.tmp 0), none⟩, (.int .i64)),
      (⟨(some 6), .bin .geq (.tmp 5) (.const (.int .i64 1)), none⟩, .bool),
      (⟨(some 7), .move (.tmp 6), none⟩, .bool),
      (⟨(some 8), .move (.tmp 0), some (7, true)⟩, (.int .i64)),
      (⟨(some 9), .move (.tmp 1), some (7, true)⟩, (.int .i64)),
      (⟨(some 10), .bin .leq (.tmp 8) (.tmp 9), some (7, true)⟩, .bool),
      (⟨(some 11), .pick (.tmp 7) (.tmp 10) (.const (.bool false)), none⟩, .bool),
      (⟨(some 4), .move (.tmp 11), none⟩, .bool)]) <|
  .ret
noncomputable def sf_super_within (n : Nat) : Sf := sfOf []
noncomputable def it_super_within (n : Nat) : It := itOf []
def f_super_within (n : Nat) (u0 : Int) (u1 : Int) (h : Heap) : Option ((Bool × Unit) × Heap) :=
  bif (decide (1 ≤ u0)) then
    (some (((decide (u0 ≤ u1)), ()), h))
  else
    (some ((false, ()), h))
def rs_super_within : Rs := [(.tmp 4, .bool)]
def ps_super_within : List Ty := [(.int .i64), (.int .i64)]
theorem e_super_within (n : Nat) (u0 : Int) (u1 : Int) (h : Heap) : f_super_within n u0 u1 h = fB (sf_super_within n) (it_super_within n) n c2_super_within rs_super_within ps_super_within (u0, (u1, ())) h := by kernel_rfl
noncomputable def s_super_within (n : Nat) : Sf1 := mkSf ps_super_within rs_super_within fun a h => f_super_within n a.1 a.2.1 h

/- wicket/octet.Put -/
def c2_octet_Put : C2 :=
  .seq (.reg [(⟨(some 4), .move (.const (.slice none 0 0)), none⟩, .any),
      (⟨(some 5), .move (.const (.int .i64 0)), none⟩, (.int .i64))]) <|
  .seq (.seq (.reg [(⟨(some 8), .move (.tmp 1), none⟩, (.int .i64)),
        (⟨(some 9), .call k_octet_may [(.tmp 8)], none⟩, .bool),
        (⟨(some 10), .un .not (.tmp 9), none⟩, .bool)]) <|
    .cond (.tmp 10)
      (.seq (.reg [(⟨(some 4), .move (.const (.slice none 0 0)), none⟩, .any),
          (⟨(some 5), .move (.const (.int .i64 2)), none⟩, (.int .i64))]) <|
      .ret)
      (.skip)) <|
  .seq (.reg [(⟨(some 11), .move (.tmp 1), none⟩, (.int .i64)),
      (⟨(some 12), .makeSlice 1 1 [(.int .u8 0)] (.tmp 11) (.tmp 11), none⟩, .any),
      (⟨(some 6), .move (.tmp 12), none⟩, .any)]) <|
  .seq (.cutn [(0, (.int .u64))] <|
      .seq (.reg [(⟨(some 13), .move (.tmp 6), none⟩, .any),
          (⟨(some 14), .lenS (.tmp 13), none⟩, (.int .i64)),
          (⟨(some 15), .move (.const (.int .i64 0)), none⟩, (.int .i64))]) <|
      .block 0 <|
        .loop [(0, (.int .u64)), (15, (.int .i64))] <|
          .seq (.reg [(⟨(some 16), .bin .lss (.tmp 15) (.tmp 14), none⟩, .any)]) <|
          .seq (.cond (.tmp 16)
              (.skip)
              (.exit 0)) <|
          .seq (.block 1 <|
              .seq (.reg [(⟨(some 17), .move (.tmp 15), none⟩, (.int .i64)),
                  (⟨(some 7), .move (.tmp 17), none⟩, (.int .i64))]) <|
              .seq (.reg [(⟨(some 18), .move (.tmp 6), none⟩, .any),
                  (⟨(some 19), .move (.tmp 7), none⟩, (.int .i64)),
                  (⟨(some 20), .move (.tmp 0), none⟩, (.int .u64)),
                  (⟨(some 21), .conv .u8 (.tmp 20), none⟩, (.int .u8)),
                  (⟨(some 22), .idxSlice 1 (.tmp 18) (.tmp 19), none⟩, .ptr),
                  (⟨none, .store 1 (.tmp 22) (.tmp 21), none⟩, .any)]) <|
              .reg [(⟨(some 23), .move (.tmp 0), none⟩, (.int .u64)),
                (⟨(some 24), .bin .shr (.tmp 23) (.const (.int .u64 8)), none⟩, (.int .u64)),
                (⟨(some 0), .move (.tmp 24), none⟩, (.int .u64))]) <|
          .reg [(⟨(some 25), .bin .add (.tmp 15) (.const (.int .i64 1)), none⟩, (.int .i64)),
            (⟨(some 15), .move (.tmp 25), none⟩, (.int .i64))]) <|
  .seq (.seq (.reg [(⟨(some 26), .move (.tmp 0), none⟩, (.int .u64)),
        (⟨(some 27), .bin .neq (.tmp 26) (.const (.int .u64 0)), none⟩, .bool)]) <|
    .cond (.tmp 27)
      (.seq (.reg [(⟨(some 4), .move (.const (.slice none 0 0)), none⟩, .any),
          (⟨(some 5), .move (.const (.int .i64 10)), none⟩, (.int .i64))]) <|
      .ret)
      (.skip)) <|
  .seq (.reg [(⟨(some 28), .move (.tmp 6), none⟩, .any),
      (⟨(some 4), .move (.tmp 28), none⟩, .any),
      (⟨(some 5), .move (.const (.int .i64 0)), none⟩, (.int .i64))]) <|
  .ret
def f_octet_Put_L10 (n : Nat) (p1 : (Value × AObj)) (n3 : Nat) (v4 : Int) (v5 : Int) (h6 : Heap) : Option (((Int × Int × Unit) × Heap) ⊕ ((Int × Unit) × Heap)) :=
  bif (decide (v5 < (n3 : Int))) then
    ((ixB 1 p1.1 v5).bind fun q7 =>
    (stB 1 (.int .u8 (IntKind.u8.wrap (v4))) h6 (some q7)).bind fun h8 =>
    (bitB .shr .u64 v4 .u64 8).bind fun x9 =>
    some (.inl ((x9, ((IntKind.i64.wrap (v5 + 1)), ())), h8)))
  else
    (some (.inr ((v4, ()), h6)))
noncomputable def sf_octet_Put (n : Nat) : Sf := sfOf [(k_octet_may, s_octet_may n)]
noncomputable def it_octet_Put (n : Nat) : It := itOf []
def f_octet_Put (n : Nat) (u0 : Int) (u1 : Int) (h : Heap) : Option ((Value × Int × Unit) × Heap) :=
  (f_octet_may n u1 h).bind fun p0 =>
  bif (!p0.1.1) then
    (some (((.slice none 0 0), (2, ())), p0.2))
  else
    ((mkSl (Heap.next p0.2) 1 1 [(.int .u8 0)] (.int .i64 u1) (.int .i64 u1)).bind fun p1 =>
    bnd ((Heap.new p0.2 (p1.2))) fun h2 =>
    (((lenB p1.1).bind fun n3 =>
      loopT (fun a => f_octet_Put_L10 n p1 n3 a.1.1 a.1.2.1 a.2) n ((u0, (0, ())), h2)) : Option ((Int × Unit) × Heap)).bind fun a11 =>
    bif (!decide (a11.1.1 = 0)) then
      (some (((.slice none 0 0), (10, ())), a11.2))
    else
      (bif !isTuple p1.1 then
        (some ((p1.1, (0, ())), a11.2))
      else
        (none)))
def rs_octet_Put : Rs := [(.tmp 4, .any), (.tmp 5, (.int .i64))]
def ps_octet_Put : List Ty := [(.int .u64), (.int .i64)]
theorem e_octet_Put (n : Nat) (u0 : Int) (u1 : Int) (h : Heap) : f_octet_Put n u0 u1 h = fB (sf_octet_Put n) (it_octet_Put n) n c2_octet_Put rs_octet_Put ps_octet_Put (u0, (u1, ())) h := by kernel_rfl
noncomputable def s_octet_Put (n : Nat) : Sf1 := mkSf ps_octet_Put rs_octet_Put fun a h => f_octet_Put n a.1 a.2.1 h

/- wicket/sum.Of -/
def c2_sum_Of : C2 :=
  .seq (.reg [(⟨(some 2), .move (.const (.int .u32 0)), none⟩, (.int .u32))]) <|
  .seq (.reg [(⟨(some 3), .move (.const (.int .u32 4294967295)), none⟩, (.int .u32))]) <|
  .seq (.cutn [(3, (.int .u32))] <|
      .seq (.reg [(⟨(some 8), .move (.tmp 0), none⟩, .any),
          (⟨(some 9), .lenS (.tmp 8), none⟩, (.int .i64)),
          (⟨(some 10), .move (.const (.int .i64 0)), none⟩, (.int .i64))]) <|
      .block 0 <|
        .loop [(3, (.int .u32)), (10, (.int .i64))] <|
          .seq (.reg [(⟨(some 11), .bin .lss (.tmp 10) (.tmp 9), none⟩, .any)]) <|
          .seq (.cond (.tmp 11)
              (.skip)
              (.exit 0)) <|
          .seq (.cutn [(3, (.int .u32))] <|
              .block 1 <|
                .seq (.reg [(⟨(some 12), .idxSlice 1 (.tmp 8) (.tmp 10), none⟩, .ptr),
                    (⟨(some 13), .load false 1 (.tmp 12), none⟩, .any),
                    (⟨(some 5), .move (.tmp 13), none⟩, .any)]) <|
                .seq (.reg [(⟨(some 14), .move (.tmp 5), none⟩, .any),
                    (⟨(some 15), .lenS (.tmp 14), none⟩, (.int .i64)),
                    (⟨(some 16), .move (.const (.int .i64 0)), none⟩, (.int .i64))]) <|
                .block 2 <|
                  .loop [(3, (.int .u32)), (16, (.int .i64))] <|
                    .seq (.reg [(⟨(some 17), .bin .lss (.tmp 16) (.tmp 15), none⟩, .any)]) <|
                    .seq (.cond (.tmp 17)
                        (.skip)
                        (.exit 2)) <|
                    .seq (.block 3 <|
                        .seq (.reg [(⟨(some 18), .idxSlice 1 (.tmp 14) (.tmp 16), none⟩, .ptr),
                            (⟨(some 19), .load false 1 (.tmp 18), none⟩, (.int .u8)),
                            (⟨(some 7), .move (.tmp 19), none⟩, (.int .u8))]) <|
                        .reg [(⟨(some 20), .move (.tmp 3), none⟩, (.int .u32)),
                          (⟨(some 21), .move (.tmp 7), none⟩, (.int .u8)),
                          (⟨(some 22), .call k_sum_push [(.tmp 20), (.tmp 21)], none⟩, (.int .u32)),
                          (⟨(some 3), .move (.tmp 22), none⟩, (.int .u32))]) <|
                    .reg [(⟨(some 23), .bin .add (.tmp 16) (.const (.int .i64 1)), none⟩, (.int .i64)),
                      (⟨(some 16), .move (.tmp 23), none⟩, (.int .i64))]) <|
          .reg [(⟨(some 24), .bin .add (.tmp 10) (.const (.int .i64 1)), none⟩, (.int .i64)),
            (⟨(some 10), .move (.tmp 24), none⟩, (.int .i64))]) <|
  .seq (.reg [(⟨(some 25), .move (.tmp 3), none⟩, (.int .u32)),
      (⟨(some 26), .un .xor (.tmp 25), none⟩, (.int .u32)),
      (⟨(some 2), .move (.tmp 26), none⟩, (.int .u32))]) <|
  .ret
def f_sum_Of_L13 (n : Nat) (x5 : Value) (n6 : Nat) (v7 : Int) (v8 : Int) (h9 : Heap) : Option (((Int × Int × Unit) × Heap) ⊕ ((Int × Unit) × Heap)) :=
  bif (decide (v8 < (n6 : Int))) then
    ((ixB 1 x5 v8).bind fun q10 =>
    (ldT (.int .u8) h9 (some q10)).bind fun x11 =>
    (f_sum_push n v7 x11 h9).bind fun p12 =>
    some (.inl ((p12.1.1, ((IntKind.i64.wrap (v8 + 1)), ())), p12.2)))
  else
    (some (.inr ((v7, ()), h9)))
def f_sum_Of_L15 (n : Nat) (u0 : Value) (n0 : Nat) (v1 : Int) (v2 : Int) (h3 : Heap) : Option (((Int × Int × Unit) × Heap) ⊕ ((Int × Unit) × Heap)) :=
  bif (decide (v2 < (n0 : Int))) then
    ((((ixB 1 u0 v2).bind fun q4 =>
      (ldT .any h3 (some q4)).bind fun x5 =>
      (lenB x5).bind fun n6 =>
      loopT (fun a => f_sum_Of_L13 n x5 n6 a.1.1 a.1.2.1 a.2) n ((v1, (0, ())), h3)) : Option ((Int × Unit) × Heap)).bind fun a14 =>
    some (.inl ((a14.1.1, ((IntKind.i64.wrap (v2 + 1)), ())), a14.2)))
  else
    (some (.inr ((v1, ()), h3)))
noncomputable def sf_sum_Of (n : Nat) : Sf := sfOf [(k_sum_push, s_sum_push n)]
noncomputable def it_sum_Of (n : Nat) : It := itOf []
def f_sum_Of (n : Nat) (u0 : Value) (h : Heap) : Option ((Int × Unit) × Heap) :=
  (((lenB u0).bind fun n0 =>
    loopT (fun a => f_sum_Of_L15 n u0 n0 a.1.1 a.1.2.1 a.2) n ((4294967295, (0, ())), h)) : Option ((Int × Unit) × Heap)).bind fun a16 =>
  (unB .xor .u32 a16.1.1).bind fun x17 =>
  some ((x17, ()), a16.2)
def rs_sum_Of : Rs := [(.tmp 2, (.int .u32))]
def ps_sum_Of : List Ty := [.any]
theorem e_sum_Of (n : Nat) (u0 : Value) (h : Heap) : f_sum_Of n u0 h = fB (sf_sum_Of n) (it_sum_Of n) n c2_sum_Of rs_sum_Of ps_sum_Of (u0, ()) h := by kernel_rfl
noncomputable def s_sum_Of (n : Nat) : Sf1 := mkSf ps_sum_Of rs_sum_Of fun a h => f_sum_Of n a.1 h

/- (*wicket/sector.Disk).Write -/
def c2_sector_Disk_Write : C2 :=
  .seq (.reg [(⟨(some 6), .move (.const (.int .i64 0)), none⟩, (.int .i64))]) <|
  .seq (.seq (.reg [(⟨(some 8), .move (.tmp 0), none⟩, .ptr),
        (⟨(some 9), .move (.tmp 1), none⟩, (.int .i64)),
        (⟨(some 10), .call k_sector_Disk_asked [(.tmp 8), (.tmp 9)], none⟩, (.int .i64)),
        (⟨(some 7), .move (.tmp 10), none⟩, (.int .i64))]) <|
    .seq (.reg [(⟨(some 11), .move (.tmp 7), none⟩, (.int .i64)),
        (⟨(some 12), .bin .neq (.tmp 11) (.const (.int .i64 0)), none⟩, .bool)]) <|
    .cond (.tmp 12)
      (.seq (.reg [(⟨(some 13), .move (.tmp 7), none⟩, (.int .i64)),
          (⟨(some 6), .move (.tmp 13), none⟩, (.int .i64))]) <|
      .ret)
      (.skip)) <|
  .seq (.seq (.reg [(⟨(some 14), .move (.tmp 2), none⟩, .any),
        (⟨(some 15), .lenS (.tmp 14), none⟩, (.int .i64)),
        (⟨(some 16), .bin .neq (.tmp 15) (.const (.int .i64 64)), none⟩, .bool)]) <|
    .cond (.tmp 16)
      (.seq (.reg [(⟨(some 6), .move (.const (.int .i64 2)), none⟩, (.int .i64))]) <|
      .ret)
      (.skip)) <|
  .seq (.regd [(⟨0, [], false, ⟨(some 17), .move (.tmp 0), none⟩⟩, .ptr),
      (⟨1, [], false, ⟨(some 18), .move (.tmp 0), none⟩⟩, .ptr),
      (⟨2, [1], false, ⟨(some 19), .nilCheck (.tmp 18), none⟩⟩, .ptr),
      (⟨3, [2, 1], false, ⟨(some 20), .fieldAddr 1 (.tmp 19), none⟩⟩, .ptr),
      (⟨4, [3, 2, 1], false, ⟨(some 21), .load false 1 (.tmp 20), none⟩⟩, .any),
      (⟨5, [], false, ⟨(some 22), .move (.tmp 1), none⟩⟩, (.int .i64)),
      (⟨6, [], false, ⟨(some 23), .move (.tmp 2), none⟩⟩, .any),
      (⟨7, [6], false, ⟨(some 24), .arrAt 64 (.tmp 23), none⟩⟩, .ptr),
      (⟨8, [7, 6], false, ⟨(some 25), .load true 64 (.tmp 24), none⟩⟩, .any),
      (⟨9, [5, 8, 7, 6], false, ⟨(some 26), .build [(.int .i64 0), (.int .u8 0), (.int .u8 0), (.int .u8 0), (.int .u8 0), (.int .u8 0), (.int .u8 0), (.int .u8 0), (.int .u8 0), (.int .u8 0), (.int .u8 0), (.int .u8 0), (.int .u8 0), (.int .u8 0), (.int .u8 0), (.int .u8 0), (.int .u8 0), (.int .u8 0), (.int .u8 0), (.int .u8 0), (.int .u8 0), (.int .u8 0), (.int .u8 0), (.int .u8 0), (.int .u8 0), (.int .u8 0), (.int .u8 0), (.int .u8 0), (.int .u8 0), (.int .u8 0), (.int .u8 0), (.int .u8 0), (.int .u8 0), (.int .u8 0), (.int .u8 0), (.int .u8 0), (.int .u8 0), (.int .u8 0), (.int .u8 0), (.int .u8 0), (.int .u8 0), (.int .u8 0), (.int .u8 0), (.int .u8 0), (.int .u8 0), (.int .u8 0), (.int .u8 0), (.int .u8 0), (.int .u8 0), (.int .u8 0), (.int .u8 0), (.int .u8 0), (.int .u8 0), (.int .u8 0), (.int .u8 0), (.int .u8 0), (.int .u8 0), (.int .u8 0), (.int .u8 0), (.int .u8 0), (.int .u8 0), (.int .u8 0), (.int .u8 0), (.int .u8 0), (.int .u8 0)] [(0, 1, (.tmp 22)), (1, 64, (.tmp 25))], none⟩⟩, .any),
      (⟨10, [9, 5, 8, 7, 6], false, ⟨(some 27), .buildSlice 1 65 [(.int .i64 0), (.int .u8 0), (.int .u8 0), (.int .u8 0), (.int .u8 0), (.int .u8 0), (.int .u8 0), (.int .u8 0), (.int .u8 0), (.int .u8 0), (.int .u8 0), (.int .u8 0), (.int .u8 0), (.int .u8 0), (.int .u8 0), (.int .u8 0), (.int .u8 0), (.int .u8 0), (.int .u8 0), (.int .u8 0), (.int .u8 0), (.int .u8 0), (.int .u8 0), (.int .u8 0), (.int .u8 0), (.int .u8 0), (.int .u8 0), (.int .u8 0), (.int .u8 0), (.int .u8 0), (.int .u8 0), (.int .u8 0), (.int .u8 0), (.int .u8 0), (.int .u8 0), (.int .u8 0), (.int .u8 0), (.int .u8 0), (.int .u8 0), (.int .u8 0), (.int .u8 0), (.int .u8 0), (.int .u8 0), (.int .u8 0), (.int .u8 0), (.int .u8 0), (.int .u8 0), (.int .u8 0), (.int .u8 0), (.int .u8 0), (.int .u8 0), (.int .u8 0), (.int .u8 0), (.int .u8 0), (.int .u8 0), (.int .u8 0), (.int .u8 0), (.int .u8 0), (.int .u8 0), (.int .u8 0), (.int .u8 0), (.int .u8 0), (.int .u8 0), (.int .u8 0), (.int .u8 0)] [(0, 65, (.tmp 26))], none⟩⟩, .any),
      (⟨11, [4, 10, 3, 2, 1, 9, 5, 8, 7, 6], true, ⟨(some 28), .append 72 65 (.tmp 21) (.tmp 27), none⟩⟩, .any),
      (⟨12, [0, 1, 2, 3, 4, 5, 6, 7, 8, 9, 10, 11], false, ⟨(some 29), .nilCheck (.tmp 17), none⟩⟩, .ptr),
      (⟨13, [12, 0, 1, 2, 3, 4, 5, 6, 7, 8, 9, 10, 11], false, ⟨(some 30), .fieldAddr 1 (.tmp 29), none⟩⟩, .ptr),
      (⟨14, [13, 11, 0, 1, 2, 3, 4, 5, 6, 7, 8, 9, 10, 12], true, ⟨none, .store 1 (.tmp 30) (.tmp 28), none⟩⟩, .any)]) <|
  .seq (.reg [(⟨(some 6), .move (.const (.int .i64 0)), none⟩, (.int .i64))]) <|
  .ret
noncomputable def sf_sector_Disk_Write (n : Nat) : Sf := sfOf [(k_sector_Disk_asked, s_sector_Disk_asked n)]
noncomputable def it_sector_Disk_Write (n : Nat) : It := itOf []
def f_sector_Disk_Write (n : Nat) (u0 : Option Addr) (u1 : Int) (u2 : Value) (h : Heap) : Option ((Int × Unit) × Heap) :=
  (f_sector_Disk_asked n u0 u1 h).bind fun p0 =>
  bif (!decide (p0.1.1 = 0)) then
    (some ((p0.1.1, ()), p0.2))
  else
    ((lenB u2).bind fun n1 =>
    bif (!decide ((n1 : Int) = 64)) then
      (some ((2, ()), p0.2))
    else
      ((u0).bind fun q2 =>
      (ldT .any p0.2 (some (fa q2 1))).bind fun x3 =>
      (arrB p0.2 64 u2).bind fun q4 =>
      (ldA 64 p0.2 q4).bind fun cs5 =>
      (fillL [(.int .i64 0), (.int .u8 0), (.int .u8 0), (.int .u8 0), (.int .u8 0), (.int .u8 0), (.int .u8 0), (.int .u8 0), (.int .u8 0), (.int .u8 0), (.int .u8 0), (.int .u8 0), (.int .u8 0), (.int .u8 0), (.int .u8 0), (.int .u8 0), (.int .u8 0), (.int .u8 0), (.int .u8 0), (.int .u8 0), (.int .u8 0), (.int .u8 0), (.int .u8 0), (.int .u8 0), (.int .u8 0), (.int .u8 0), (.int .u8 0), (.int .u8 0), (.int .u8 0), (.int .u8 0), (.int .u8 0), (.int .u8 0), (.int .u8 0), (.int .u8 0), (.int .u8 0), (.int .u8 0), (.int .u8 0), (.int .u8 0), (.int .u8 0), (.int .u8 0), (.int .u8 0), (.int .u8 0), (.int .u8 0), (.int .u8 0), (.int .u8 0), (.int .u8 0), (.int .u8 0), (.int .u8 0), (.int .u8 0), (.int .u8 0), (.int .u8 0), (.int .u8 0), (.int .u8 0), (.int .u8 0), (.int .u8 0), (.int .u8 0), (.int .u8 0), (.int .u8 0), (.int .u8 0), (.int .u8 0), (.int .u8 0), (.int .u8 0), (.int .u8 0), (.int .u8 0), (.int .u8 0)] [(0, 1, (.int .i64 u1)), (1, 64, (.agg ⟨cs5⟩))]).bind fun cs6 =>
      (fillL [(.int .i64 0), (.int .u8 0), (.int .u8 0), (.int .u8 0), (.int .u8 0), (.int .u8 0), (.int .u8 0), (.int .u8 0), (.int .u8 0), (.int .u8 0), (.int .u8 0), (.int .u8 0), (.int .u8 0), (.int .u8 0), (.int .u8 0), (.int .u8 0), (.int .u8 0), (.int .u8 0), (.int .u8 0), (.int .u8 0), (.int .u8 0), (.int .u8 0), (.int .u8 0), (.int .u8 0), (.int .u8 0), (.int .u8 0), (.int .u8 0), (.int .u8 0), (.int .u8 0), (.int .u8 0), (.int .u8 0), (.int .u8 0), (.int .u8 0), (.int .u8 0), (.int .u8 0), (.int .u8 0), (.int .u8 0), (.int .u8 0), (.int .u8 0), (.int .u8 0), (.int .u8 0), (.int .u8 0), (.int .u8 0), (.int .u8 0), (.int .u8 0), (.int .u8 0), (.int .u8 0), (.int .u8 0), (.int .u8 0), (.int .u8 0), (.int .u8 0), (.int .u8 0), (.int .u8 0), (.int .u8 0), (.int .u8 0), (.int .u8 0), (.int .u8 0), (.int .u8 0), (.int .u8 0), (.int .u8 0), (.int .u8 0), (.int .u8 0), (.int .u8 0), (.int .u8 0), (.int .u8 0)] [(0, 65, (.agg ⟨cs6⟩))]).bind fun cs7 =>
      bnd ((Heap.new p0.2 (.cells cs7 false 65))) fun h8 =>
      (appendK h8 72 65 x3 (.slice (some ⟨Heap.next p0.2, 0, some 0⟩) 1 1)).bind fun p9 =>
      (u0).bind fun q10 =>
      (stB 1 p9.1 p9.2 (some (fa q10 1))).bind fun h11 =>
      some ((0, ()), h11)))
def rs_sector_Disk_Write : Rs := [(.tmp 6, (.int .i64))]
def ps_sector_Disk_Write : List Ty := [.ptr, (.int .i64), .any]
theorem e_sector_Disk_Write (n : Nat) (u0 : Option Addr) (u1 : Int) (u2 : Value) (h : Heap) : f_sector_Disk_Write n u0 u1 u2 h = fB (sf_sector_Disk_Write n) (it_sector_Disk_Write n) n c2_sector_Disk_Write rs_sector_Disk_Write ps_sector_Disk_Write (u0, (u1, (u2, ()))) h := by kernel_rfl
noncomputable def s_sector_Disk_Write (n : Nat) : Sf1 := mkSf ps_sector_Disk_Write rs_sector_Disk_Write fun a h => f_sector_Disk_Write n a.1 a.2.1 a.2.2.1 h

/- slices.Backward[[]wicket/sector.waiting,wicket/sector.waiting] -/
def c2_slices_Backward_sector_waiting_sector_waiting : C2 :=
  .seq (.reg [(⟨(some 1), .box (.tmp 0), none⟩, .ptr),
      (⟨(some 2), .move (.const .nilFunc), none⟩, (.fn k_slices_Backward_sector_waiting_sector_waiting_1 1))]) <|
  .seq (.reg [(⟨(some 3), .makeFunc k_slices_Backward_sector_waiting_sector_waiting_1 [] [(.tmp 1)], none⟩, (.fn k_slices_Backward_sector_waiting_sector_waiting_1 1)),
      (⟨(some 2), .move (.tmp 3), none⟩, (.fn k_slices_Backward_sector_waiting_sector_waiting_1 1))]) <|
  .ret
noncomputable def sf_slices_Backward_sector_waiting_sector_waiting (n : Nat) : Sf := sfOf []
noncomputable def it_slices_Backward_sector_waiting_sector_waiting (n : Nat) : It := itOf []
def f_slices_Backward_sector_waiting_sector_waiting (n : Nat) (u0 : Value) (h : Heap) : Option ((Ptrs 1 × Unit) × Heap) :=
  bif (cellsOf u0).all isCell then
    (bnd ((Heap.new h (.cells (cellsOf u0) false 0))) fun h0 =>
    some ((((some (nwA h)), ()), ()), h0))
  else
    (none)
def rs_slices_Backward_sector_waiting_sector_waiting : Rs := [(.tmp 2, (.fn k_slices_Backward_sector_waiting_sector_waiting_1 1))]
def ps_slices_Backward_sector_waiting_sector_waiting : List Ty := [.any]
theorem e_slices_Backward_sector_waiting_sector_waiting (n : Nat) (u0 : Value) (h : Heap) : f_slices_Backward_sector_waiting_sector_waiting n u0 h = fB (sf_slices_Backward_sector_waiting_sector_waiting n) (it_slices_Backward_sector_waiting_sector_waiting n) n c2_slices_Backward_sector_waiting_sector_waiting rs_slices_Backward_sector_waiting_sector_waiting ps_slices_Backward_sector_waiting_sector_waiting (u0, ()) h := by kernel_rfl
noncomputable def s_slices_Backward_sector_waiting_sector_waiting (n : Nat) : Sf1 := mkSf ps_slices_Backward_sector_waiting_sector_waiting rs_slices_Backward_sector_waiting_sector_waiting fun a h => f_slices_Backward_sector_waiting_sector_waiting n a.1 h

/- wicket/home.Encode -/
def c2_home_Encode : C2 :=
  .seq (.reg [(⟨(some 3), .box (.tmp 1), none⟩, .ptr),
      (⟨(some 4), .move (.const (.slice none 0 0)), none⟩, .any),
      (⟨(some 5), .move (.const (.int .i64 0)), none⟩, (.int .i64))]) <|
  .seq (.seq (.reg [(⟨(some 9), .move (.tmp 0), none⟩, (.int .i64)),
        (⟨(some 10), .call k_home_block [(.tmp 9)], none⟩, .bool),
        (⟨(some 11), .un .not (.tmp 10), none⟩, .bool)]) <|
    .cond (.tmp 11)
      (.seq (.reg [(⟨(some 4), .move (.const (.slice none 0 0)), none⟩, .any),
          (⟨(some 5), .move (.const (.int .i64 51)), none⟩, (.int .i64))]) <|
      .ret)
      (.skip)) <|
  .seq (.reg [(⟨(some 12), .buildSlice 4 1 (List.replicate 4 (.int .u8 0)) [(0, 1, (.const (.int .u8 72))), (1, 1, (.const (.int .u8 79))), (2, 1, (.const (.int .u8 77))), (3, 1, (.const (.int .u8 69)))], none⟩, .any),
      (⟨(some 13), .markS (.tmp 12), none⟩, .any),
      (⟨(some 14), .move (.tmp 0), none⟩, (.int .i64)),
      (⟨(some 15), .conv .u8 (.tmp 14), none⟩, (.int .u8)),
      (⟨(some 16), .buildSlice 2 1 [(.int .u8 0), (.int .u8 0)] [(0, 1, (.const (.int .u8 1))), (1, 1, (.tmp 15))], none⟩, .any),
      (⟨(some 17), .buildSlice 2 1 [(.slice none 0 0), (.slice none 0 0)] [(0, 1, (.tmp 13)), (1, 1, (.tmp 16))], none⟩, .any),
      (⟨(some 18), .call k_octet_Join [(.tmp 17)], none⟩, .any),
      (⟨(some 6), .move (.tmp 18), none⟩, .any)]) <|
  .seq (.regd [(⟨0, [], false, ⟨(some 19), .move (.tmp 6), none⟩⟩, .any),
      (⟨1, [], false, ⟨(some 20), .move (.tmp 6), none⟩⟩, .any),
      (⟨2, [1], false, ⟨(some 21), .lenS (.tmp 20), none⟩⟩, (.int .i64)),
      (⟨3, [2, 1], false, ⟨(some 22), .bin .sub (.const (.int .i64 28)) (.tmp 21), none⟩⟩, (.int .i64)),
      (⟨4, [3, 2, 1], false, ⟨(some 23), .makeSlice 1 1 [(.int .u8 0)] (.tmp 22) (.tmp 22), none⟩⟩, .any),
      (⟨5, [], false, ⟨(some 24), .sliceArr 32 1 (.tmp 3) none none none, none⟩⟩, .any),
      (⟨6, [0, 4, 5, 3, 2, 1], false, ⟨(some 25), .buildSlice 3 1 [(.slice none 0 0), (.slice none 0 0), (.slice none 0 0)] [(0, 1, (.tmp 19)), (1, 1, (.tmp 23)), (2, 1, (.tmp 24))], none⟩⟩, .any),
      (⟨7, [6, 0, 4, 5, 3, 2, 1], true, ⟨(some 26), .call k_octet_Join [(.tmp 25)], none⟩⟩, .any),
      (⟨8, [7, 0, 1, 2, 3, 4, 5, 6], true, ⟨(some 6), .move (.tmp 26), none⟩⟩, .any)]) <|
  .seq (.reg [(⟨(some 28), .move (.tmp 6), none⟩, .any),
      (⟨(some 29), .buildSlice 1 1 [(.slice none 0 0)] [(0, 1, (.tmp 28))], none⟩, .any),
      (⟨(some 30), .call k_sum_Of [(.tmp 29)], none⟩, (.int .u32)),
      (⟨(some 31), .conv .u64 (.tmp 30), none⟩, (.int .u64)),
      (⟨(some 32), .call k_octet_Put [(.tmp 31), (.const (.int .i64 4))], none⟩, .any),
      (⟨(some 27), .move (.tmp 32), none⟩, .any),
      (⟨(some 33), .extract (.tmp 27) 0, none⟩, .any),
      (⟨(some 34), .extract (.tmp 27) 1, none⟩, (.int .i64)),
      (⟨(some 7), .move (.tmp 33), none⟩, .any),
      (⟨(some 8), .move (.tmp 34), none⟩, (.int .i64))]) <|
  .seq (.reg [(⟨(some 35), .move (.tmp 6), none⟩, .any),
      (⟨(some 36), .move (.tmp 7), none⟩, .any),
      (⟨(some 37), .buildSlice 2 1 [(.slice none 0 0), (.slice none 0 0)] [(0, 1, (.tmp 35)), (1, 1, (.tmp 36))], none⟩, .any),
      (⟨(some 38), .call k_octet_Join [(.tmp 37)], none⟩, .any),
      (⟨(some 39), .move (.tmp 8), none⟩, (.int .i64)),
      (⟨(some 4), .move (.tmp 38), none⟩, .any),
      (⟨(some 5), .move (.tmp 39), none⟩, (.int .i64))]) <|
  .ret
noncomputable def sf_home_Encode (n : Nat) : Sf := sfOf [(k_home_block, s_home_block n), (k_octet_Join, s_octet_Join n), (k_sum_Of, s_sum_Of n), (k_octet_Put, s_octet_Put n)]
noncomputable def it_home_Encode (n : Nat) : It := itOf []
def f_home_Encode (n : Nat) (u0 : Int) (u1 : Value) (h : Heap) : Option ((Value × Int × Unit) × Heap) :=
  bif (cellsOf u1).all isCell then
    (bnd ((Heap.new h (.cells (cellsOf u1) false 0))) fun h0 =>
    (f_home_block n u0 h0).bind fun p1 =>
    bif (!p1.1.1) then
      (some (((.slice none 0 0), (51, ())), p1.2))
    else
      ((fillL (List.replicate 4 (.int .u8 0)) [(0, 1, (.int .u8 72)), (1, 1, (.int .u8 79)), (2, 1, (.int .u8 77)), (3, 1, (.int .u8 69))]).bind fun cs2 =>
      bnd ((Heap.new p1.2 (.cells cs2 false 1))) fun h3 =>
      (markSK h3 (.slice (some ⟨Heap.next p1.2, 0, some 0⟩) 4 4)).bind fun p4 =>
      (fillL [(.int .u8 0), (.int .u8 0)] [(0, 1, (.int .u8 1)), (1, 1, (.int .u8 (IntKind.u8.wrap (u0))))]).bind fun cs5 =>
      bnd ((Heap.new p4.2 (.cells cs5 false 1))) fun h6 =>
      (fillL [(.slice none 0 0), (.slice none 0 0)] [(0, 1, p4.1), (1, 1, (.slice (some ⟨Heap.next p4.2, 0, some 0⟩) 2 2))]).bind fun cs7 =>
      bnd ((Heap.new h6 (.cells cs7 false 1))) fun h8 =>
      (f_octet_Join n (.slice (some ⟨Heap.next h6, 0, some 0⟩) 2 2) h8).bind fun p9 =>
      (lenB p9.1.1).bind fun n10 =>
      (mkSl (Heap.next p9.2) 1 1 [(.int .u8 0)] (.int .i64 (IntKind.i64.wrap (28 - (n10 : Int)))) (.int .i64 (IntKind.i64.wrap (28 - (n10 : Int))))).bind fun p11 =>
      bnd ((Heap.new p9.2 (p11.2))) fun h12 =>
      (sliceArrK (Heap.dropAll h12 ((Heap.next p9.2) :: [])) 32 1 none none (.pointer (some (nwA h)))).bind fun p13 =>
      (fillL [(.slice none 0 0), (.slice none 0 0), (.slice none 0 0)] [(0, 1, p9.1.1), (1, 1, p11.1), (2, 1, p13.1)]).bind fun cs14 =>
      bnd ((Heap.new h12 (.cells cs14 false 1))) fun h15 =>
      (f_octet_Join n (.slice (some ⟨Heap.next h12, 0, some 0⟩) 3 3) h15).bind fun p16 =>
      (fillL [(.slice none 0 0)] [(0, 1, p16.1.1)]).bind fun cs17 =>
      bnd ((Heap.new p16.2 (.cells cs17 false 1))) fun h18 =>
      (f_sum_Of n (.slice (some ⟨Heap.next p16.2, 0, some 0⟩) 1 1) h18).bind fun p19 =>
      (f_octet_Put n (IntKind.u64.wrap (p19.1.1)) 4 p19.2).bind fun p20 =>
      (fillL [(.slice none 0 0), (.slice none 0 0)] [(0, 1, p16.1.1), (1, 1, p20.1.1)]).bind fun cs21 =>
      bnd ((Heap.new p20.2 (.cells cs21 false 1))) fun h22 =>
      (f_octet_Join n (.slice (some ⟨Heap.next p20.2, 0, some 0⟩) 2 2) h22).bind fun p23 =>
      bif !isTuple p23.1.1 then
        (some ((p23.1.1, (p20.1.2.1, ())), p23.2))
      else
        (none)))
  else
    (none)
def rs_home_Encode : Rs := [(.tmp 4, .any), (.tmp 5, (.int .i64))]
def ps_home_Encode : List Ty := [(.int .i64), .any]
theorem e_home_Encode (n : Nat) (u0 : Int) (u1 : Value) (h : Heap) : f_home_Encode n u0 u1 h = fB (sf_home_Encode n) (it_home_Encode n) n c2_home_Encode rs_home_Encode ps_home_Encode (u0, (u1, ())) h := by kernel_rfl
noncomputable def s_home_Encode (n : Nat) : Sf1 := mkSf ps_home_Encode rs_home_Encode fun a h => f_home_Encode n a.1 a.2.1 h

/- wicket/home.Decode -/
def c2_home_Decode : C2 :=
  .seq (.reg [(⟨(some 4), .alloc (List.replicate 32 (.int .u8 0)), none⟩, .ptr),
      (⟨(some 5), .move (.const (.int .i64 0)), none⟩, (.int .i64))]) <|
  .seq (.block 0 <|
      .seq (.reg [(⟨(some 10), .move (.tmp 1), none⟩, (.int .i64)),
          (⟨(some 11), .call k_home_block [(.tmp 10)], none⟩, .bool),
          (⟨(some 12), .un .not (.tmp 11), none⟩, .bool),
          (⟨(some 9), .move (.tmp 12), none⟩, .bool)]) <|
      .cond (.tmp 9)
        (.seq (.reg [(⟨(some 13), .build (List.replicate 32 (.int .u8 0)) [], none⟩, .any),
            (⟨none, .store 32 (.tmp 4) (.tmp 13), none⟩, .any),
            (⟨(some 5), .move (.const (.int .i64 51)), none⟩, (.int .i64))]) <|
        .ret)
        (.seq (.reg [(⟨(some 15), .move (.tmp 0), none⟩, .any),
            (⟨(some 16), .lenS (.tmp 15), none⟩, (.int .i64)),
            (⟨(some 17), .bin .neq (.tmp 16) (.const (.int .i64 64)), none⟩, .bool),
            (⟨(some 14), .move (.tmp 17), none⟩, .bool)]) <|
        .cond (.tmp 14)
          (.seq (.reg [(⟨(some 18), .build (List.replicate 32 (.int .u8 0)) [], none⟩, .any),
              (⟨none, .store 32 (.tmp 4) (.tmp 18), none⟩, .any),
              (⟨(some 5), .move (.const (.int .i64 2)), none⟩, (.int .i64))]) <|
          .ret)
          (.skip))) <|
  .seq (.reg [(⟨(some 19), .move (.tmp 0), none⟩, .any),
      (⟨(some 20), .slice 1 (.tmp 19) (some (.const (.int .i64 28))) (some (.const (.int .i64 60))) none, none⟩, .any),
      (⟨(some 21), .arrAt 32 (.tmp 20), none⟩, .ptr),
      (⟨(some 22), .load true 32 (.tmp 21), none⟩, .any),
      (⟨(some 6), .alloc (List.replicate 32 (.int .u8 0)), none⟩, .ptr),
      (⟨none, .store 32 (.tmp 6) (.tmp 22), none⟩, .any)]) <|
  .seq (.reg [(⟨(some 24), .move (.tmp 1), none⟩, (.int .i64)),
      (⟨(some 25), .load true 32 (.tmp 6), none⟩, .any),
      (⟨(some 26), .call k_home_Encode [(.tmp 24), (.tmp 25)], none⟩, .any),
      (⟨(some 23), .move (.tmp 26), none⟩, .any),
      (⟨(some 27), .extract (.tmp 23) 0, none⟩, .any),
      (⟨(some 28), .extract (.tmp 23) 1, none⟩, (.int .i64)),
      (⟨(some 7), .move (.tmp 27), none⟩, .any),
      (⟨(some 8), .move (.tmp 28), none⟩, (.int .i64))]) <|
  .seq (.seq (.cutn [(39, .bool)] <|
        .regd [(⟨0, [], false, ⟨(some 29), .move (.tmp 8), none⟩⟩, (.int .i64)),
          (⟨1, [0], false, ⟨(some 30), .bin .neq (.tmp 29) (.const (.int .i64 0)), none⟩⟩, .bool),
          (⟨2, [1, 0], false, ⟨(some 31), .move (.tmp 30), none⟩⟩, .bool),
          (⟨3, [2, 1, 0], false, ⟨(some 32), .move (.tmp 7), some (31, false)⟩⟩, .any),
          (⟨4, [3, 2, 1, 0], false, ⟨(some 33), .arrAt 64 (.tmp 32), some (31, false)⟩⟩, .ptr),
          (⟨5, [4, 2, 3, 1, 0], false, ⟨(some 34), .load true 64 (.tmp 33), some (31, false)⟩⟩, .any),
          (⟨6, [2, 1, 0], false, ⟨(some 35), .move (.tmp 0), some (31, false)⟩⟩, .any),
          (⟨7, [6, 2, 1, 0], false, ⟨(some 36), .arrAt 64 (.tmp 35), some (31, false)⟩⟩, .ptr),
          (⟨8, [7, 2, 6, 1, 0], false, ⟨(some 37), .load true 64 (.tmp 36), some (31, false)⟩⟩, .any),
          (⟨9, [5, 8, 2, 4, 3, 1, 0, 7, 6], false, ⟨(some 38), .eqv true (.agg (List.replicate 64 false)) (.tmp 34) (.tmp 37), some (31, false)⟩⟩, .bool),
          (⟨10, [2, 9, 1, 0, 5, 8, 4, 3, 7, 6], false, ⟨(some 39), .pick (.tmp 31) (.const (.bool true)) (.tmp 38), none⟩⟩, .bool)]) <|
    .cond (.tmp 39)
      (.seq (.reg [(⟨(some 40), .build (List.replicate 32 (.int .u8 0)) [], none⟩, .any),
          (⟨none, .store 32 (.tmp 4) (.tmp 40), none⟩, .any),
          (⟨(some 5), .move (.const (.int .i64 80)), none⟩, (.int .i64))]) <|
      .ret)
      (.skip)) <|
  .seq (.reg [(⟨(some 41), .load true 32 (.tmp 6), none⟩, .any),
      (⟨none, .store 32 (.tmp 4) (.tmp 41), none⟩, .any),
      (⟨(some 5), .move (.const (.int .i64 0)), none⟩, (.int .i64))]) <|
  .ret
noncomputable def sf_home_Decode (n : Nat) : Sf := sfOf [(k_home_block, s_home_block n), (k_home_Encode, s_home_Encode n)]
noncomputable def it_home_Decode (n : Nat) : It := itOf []
def f_home_Decode (n : Nat) (u0 : Value) (u1 : Int) (h : Heap) : Option ((Value × Int × Unit) × Heap) :=
  bnd ((Heap.new h (.cells (List.replicate 32 (.int .u8 0)) false 0))) fun h0 =>
  (f_home_block n u1 h0).bind fun p1 =>
  bif (!p1.1.1) then
    ((fillL (List.replicate 32 (.int .u8 0)) []).bind fun cs2 =>
    (stB 32 (.agg ⟨cs2⟩) p1.2 (some (nwA h))).bind fun h3 =>
    (ldA 32 h3 (some (nwA h))).bind fun cs4 =>
    some (((.agg ⟨cs4⟩), (51, ())), h3))
  else
    ((lenB u0).bind fun n5 =>
    bif (!decide ((n5 : Int) = 64)) then
      ((fillL (List.replicate 32 (.int .u8 0)) []).bind fun cs6 =>
      (stB 32 (.agg ⟨cs6⟩) p1.2 (some (nwA h))).bind fun h7 =>
      (ldA 32 h7 (some (nwA h))).bind fun cs8 =>
      some (((.agg ⟨cs8⟩), (2, ())), h7))
    else
      ((sliceK p1.2 1 (some (.int .i64 28)) (some (.int .i64 60)) none u0).bind fun p9 =>
      (arrB p1.2 32 p9.1).bind fun q10 =>
      (ldA 32 p1.2 q10).bind fun cs11 =>
      bnd ((Heap.new p1.2 (.cells (List.replicate 32 (.int .u8 0)) false 0))) fun h12 =>
      (stB 32 (.agg ⟨cs11⟩) h12 (some (nwA p1.2))).bind fun h13 =>
      (ldA 32 h13 (some (nwA p1.2))).bind fun cs14 =>
      (f_home_Encode n u1 (.agg ⟨cs14⟩) h13).bind fun p15 =>
      ((bif (!decide (p15.1.2.1 = 0)) then
          (some ((true, ()), p15.2))
        else
          ((arrB p15.2 64 p15.1.1).bind fun q16 =>
          (ldA 64 p15.2 q16).bind fun cs17 =>
          (arrB p15.2 64 u0).bind fun q18 =>
          (ldA 64 p15.2 q18).bind fun cs19 =>
          (eqVals p15.2 (.agg (List.replicate 64 false)) (.agg ⟨cs17⟩) (.agg ⟨cs19⟩)).bind fun b20 =>
          some (((!b20), ()), p15.2))) : Option ((Bool × Unit) × Heap)).bind fun a21 =>
      bif a21.1.1 then
        ((fillL (List.replicate 32 (.int .u8 0)) []).bind fun cs22 =>
        (stB 32 (.agg ⟨cs22⟩) a21.2 (some (nwA h))).bind fun h23 =>
        (ldA 32 h23 (some (nwA h))).bind fun cs24 =>
        some (((.agg ⟨cs24⟩), (80, ())), h23))
      else
        ((ldA 32 a21.2 (some (nwA p1.2))).bind fun cs25 =>
        (stB 32 (.agg ⟨cs25⟩) a21.2 (some (nwA h))).bind fun h26 =>
        (ldA 32 h26 (some (nwA h))).bind fun cs27 =>
        some (((.agg ⟨cs27⟩), (0, ())), h26))))
def rs_home_Decode : Rs := [(.cell true 32 4, .any), (.tmp 5, (.int .i64))]
def ps_home_Decode : List Ty := [.any, (.int .i64)]
theorem e_home_Decode (n : Nat) (u0 : Value) (u1 : Int) (h : Heap) : f_home_Decode n u0 u1 h = fB (sf_home_Decode n) (it_home_Decode n) n c2_home_Decode rs_home_Decode ps_home_Decode (u0, (u1, ())) h := by kernel_rfl
noncomputable def s_home_Decode (n : Nat) : Sf1 := mkSf ps_home_Decode rs_home_Decode fun a h => f_home_Decode n a.1 a.2.1 h

/- (*wicket/sector.Disk).Read -/
def c2_sector_Disk_Read : C2 :=
  .seq (.reg [(⟨(some 3), .box (.tmp 1), none⟩, .ptr),
      (⟨(some 4), .alloc [(.slice none 0 0)], none⟩, .ptr),
      (⟨(some 5), .alloc [(.int .i64 0)], none⟩, .ptr)]) <|
  .seq (.seq (.reg [(⟨(some 9), .move (.tmp 0), none⟩, .ptr),
        (⟨(some 10), .load false 1 (.tmp 3), none⟩, (.int .i64)),
        (⟨(some 11), .call k_sector_Disk_asked [(.tmp 9), (.tmp 10)], none⟩, (.int .i64)),
        (⟨(some 6), .move (.tmp 11), none⟩, (.int .i64))]) <|
    .seq (.reg [(⟨(some 12), .move (.tmp 6), none⟩, (.int .i64)),
        (⟨(some 13), .bin .neq (.tmp 12) (.const (.int .i64 0)), none⟩, .bool)]) <|
    .cond (.tmp 13)
      (.seq (.reg [(⟨(some 14), .move (.tmp 6), none⟩, (.int .i64)),
          (⟨none, .store 1 (.tmp 4) (.const (.slice none 0 0)), none⟩, .any),
          (⟨none, .store 1 (.tmp 5) (.tmp 14), none⟩, .any)]) <|
      .ret)
      (.skip)) <|
  .seq (.seq (.reg [(⟨(some 15), .move (.tmp 0), none⟩, .ptr),
        (⟨(some 16), .nilCheck (.tmp 15), none⟩, .ptr),
        (⟨(some 17), .fieldAddr 1 (.tmp 16), none⟩, .ptr),
        (⟨(some 18), .load false 1 (.tmp 17), none⟩, .any),
        (⟨(some 19), .call k_slices_Backward_sector_waiting_sector_waiting [(.tmp 18)], none⟩, (.fn k_slices_Backward_sector_waiting_sector_waiting_1 1))]) <|
    .block 0 <|
      .range (.tmp 19) [20, 21] [.ret]
        (.reg [(⟨(some 8), .alloc [(.int .i64 0), (.int .u8 0), (.int .u8 0), (.int .u8 0), (.int .u8 0), (.int .u8 0), (.int .u8 0), (.int .u8 0), (.int .u8 0), (.int .u8 0), (.int .u8 0), (.int .u8 0), (.int .u8 0), (.int .u8 0), (.int .u8 0), (.int .u8 0), (.int .u8 0), (.int .u8 0), (.int .u8 0), (.int .u8 0), (.int .u8 0), (.int .u8 0), (.int .u8 0), (.int .u8 0), (.int .u8 0), (.int .u8 0), (.int .u8 0), (.int .u8 0), (.int .u8 0), (.int .u8 0), (.int .u8 0), (.int .u8 0), (.int .u8 0), (.int .u8 0), (.int .u8 0), (.int .u8 0), (.int .u8 0), (.int .u8 0), (.int .u8 0), (.int .u8 0), (.int .u8 0), (.int .u8 0), (.int .u8 0), (.int .u8 0), (.int .u8 0), (.int .u8 0), (.int .u8 0), (.int .u8 0), (.int .u8 0), (.int .u8 0), (.int .u8 0), (.int .u8 0), (.int .u8 0), (.int .u8 0), (.int .u8 0), (.int .u8 0), (.int .u8 0), (.int .u8 0), (.int .u8 0), (.int .u8 0), (.int .u8 0), (.int .u8 0), (.int .u8 0), (.int .u8 0), (.int .u8 0)], none⟩, .ptr),
          (⟨none, .store 65 (.tmp 8) (.tmp 21), none⟩, .any)])
        (.block 1 <|
          .seq (.reg [(⟨(some 22), .fieldAddr 0 (.tmp 8), none⟩, .ptr),
              (⟨(some 23), .load false 1 (.tmp 22), none⟩, (.int .i64)),
              (⟨(some 24), .load false 1 (.tmp 3), none⟩, (.int .i64)),
              (⟨(some 25), .bin .eql (.tmp 23) (.tmp 24), none⟩, .bool)]) <|
          .cond (.tmp 25)
            (.seq (.reg [(⟨(some 26), .fieldAddr 1 (.tmp 8), none⟩, .ptr),
                (⟨(some 27), .sliceArr 64 1 (.tmp 26) none none none, none⟩, .any),
                (⟨(some 28), .call k_slices_Clone_byte_byte [(.tmp 27)], none⟩, .any),
                (⟨none, .store 1 (.tmp 4) (.tmp 28), none⟩, .any),
                (⟨none, .store 1 (.tmp 5) (.const (.int .i64 0)), none⟩, .any)]) <|
            .ret)
            (.skip))) <|
  .seq (.regd [(⟨0, [], false, ⟨(some 29), .move (.tmp 0), none⟩⟩, .ptr),
      (⟨1, [0], false, ⟨(some 30), .nilCheck (.tmp 29), none⟩⟩, .ptr),
      (⟨2, [1, 0], false, ⟨(some 31), .fieldAddr 0 (.tmp 30), none⟩⟩, .ptr),
      (⟨3, [2, 1, 0], false, ⟨(some 32), .load false 1 (.tmp 31), none⟩⟩, .any),
      (⟨4, [], false, ⟨(some 33), .load false 1 (.tmp 3), none⟩⟩, (.int .i64)),
      (⟨5, [3, 4, 2, 1, 0], false, ⟨(some 34), .idxSlice 64 (.tmp 32) (.tmp 33), none⟩⟩, .ptr),
      (⟨6, [5, 3, 4, 2, 1, 0], false, ⟨(some 35), .sliceArr 64 1 (.tmp 34) none none none, none⟩⟩, .any),
      (⟨7, [6, 5, 3, 4, 2, 1, 0], true, ⟨(some 36), .call k_slices_Clone_byte_byte [(.tmp 35)], none⟩⟩, .any),
      (⟨8, [7, 0, 1, 2, 3, 4, 5, 6], true, ⟨none, .store 1 (.tmp 4) (.tmp 36), none⟩⟩, .any),
      (⟨9, [8, 0, 1, 2, 3, 4, 5, 6, 7], true, ⟨none, .store 1 (.tmp 5) (.const (.int .i64 0)), none⟩⟩, .any)]) <|
  .ret
def f_sector_Disk_Read_B23 (n : Nat) (h : Heap) (h0 : Heap) (h1 : Heap) (y12 : Int) (y13 : Value) (v14 : (Heap × Nat)) : Option (Bool × (Heap × Nat)) :=
  bif Nat.beq v14.2 0 then
    (bnd ((Heap.new v14.1 (.cells [(.int .i64 0), (.int .u8 0), (.int .u8 0), (.int .u8 0), (.int .u8 0), (.int .u8 0), (.int .u8 0), (.int .u8 0), (.int .u8 0), (.int .u8 0), (.int .u8 0), (.int .u8 0), (.int .u8 0), (.int .u8 0), (.int .u8 0), (.int .u8 0), (.int .u8 0), (.int .u8 0), (.int .u8 0), (.int .u8 0), (.int .u8 0), (.int .u8 0), (.int .u8 0), (.int .u8 0), (.int .u8 0), (.int .u8 0), (.int .u8 0), (.int .u8 0), (.int .u8 0), (.int .u8 0), (.int .u8 0), (.int .u8 0), (.int .u8 0), (.int .u8 0), (.int .u8 0), (.int .u8 0), (.int .u8 0), (.int .u8 0), (.int .u8 0), (.int .u8 0), (.int .u8 0), (.int .u8 0), (.int .u8 0), (.int .u8 0), (.int .u8 0), (.int .u8 0), (.int .u8 0), (.int .u8 0), (.int .u8 0), (.int .u8 0), (.int .u8 0), (.int .u8 0), (.int .u8 0), (.int .u8 0), (.int .u8 0), (.int .u8 0), (.int .u8 0), (.int .u8 0), (.int .u8 0), (.int .u8 0), (.int .u8 0), (.int .u8 0), (.int .u8 0), (.int .u8 0), (.int .u8 0)] false 0))) fun h15 =>
    (stB 65 y13 h15 (some (nwA v14.1))).bind fun h16 =>
    (ldT (.int .i64) h16 (some (fa (nwA v14.1) 0))).bind fun x17 =>
    (ldT (.int .i64) h16 (some (nwA h))).bind fun x18 =>
    bif (decide (x17 = x18)) then
      ((sliceArrK h16 64 1 none none (.pointer (some (fa (nwA v14.1) 1)))).bind fun p19 =>
      (f_slices_Clone_byte_byte n p19.1 h16).bind fun p20 =>
      (stB 1 p20.1.1 p20.2 (some (nwA h0))).bind fun h21 =>
      (stB 1 (.int .i64 0) h21 (some (nwA h1))).bind fun h22 =>
      some (false, (h22, 1)))
    else
      (some (true, (h16, 0))))
  else none
noncomputable def sf_sector_Disk_Read (n : Nat) : Sf := sfOf [(k_sector_Disk_asked, s_sector_Disk_asked n), (k_slices_Backward_sector_waiting_sector_waiting, s_slices_Backward_sector_waiting_sector_waiting n), (k_slices_Clone_byte_byte, s_slices_Clone_byte_byte n)]
noncomputable def it_sector_Disk_Read (n : Nat) : It := itOf [(k_slices_Backward_sector_waiting_sector_waiting_1, i_slices_Backward_sector_waiting_sector_waiting_1 n)]
def f_sector_Disk_Read (n : Nat) (u0 : Option Addr) (u1 : Int) (h : Heap) : Option ((Value × Int × Unit) × Heap) :=
  bnd ((Heap.new h (.cells [(.int .i64 u1)] false 0))) fun h0 =>
  bnd ((Heap.new h0 (.cells [(.slice none 0 0)] false 0))) fun h1 =>
  bnd ((Heap.new h1 (.cells [(.int .i64 0)] false 0))) fun h2 =>
  (ldT (.int .i64) h2 (some (nwA h))).bind fun x3 =>
  (f_sector_Disk_asked n u0 x3 h2).bind fun p4 =>
  bif (!decide (p4.1.1 = 0)) then
    ((stB 1 (.slice none 0 0) p4.2 (some (nwA h0))).bind fun h5 =>
    (stB 1 (.int .i64 p4.1.1) h5 (some (nwA h1))).bind fun h6 =>
    (ldT .any h6 (some (nwA h0))).bind fun x7 =>
    bif !isTuple x7 then
      ((ldT (.int .i64) h6 (some (nwA h1))).bind fun x8 =>
      some ((x7, (x8, ())), h6))
    else
      (none))
  else
    ((u0).bind fun q9 =>
    (ldT .any p4.2 (some (fa q9 1))).bind fun x10 =>
    (f_slices_Backward_sector_waiting_sector_waiting n x10 p4.2).bind fun p11 =>
    (f_slices_Backward_sector_waiting_sector_waiting_1 (V := (Heap × Nat)) (fun v => v.1) (fun v h => (h, v.2)) (fun a v => f_sector_Disk_Read_B23 n h h0 h1 a.1 a.2.1 v) n p11.1.1.1 ((Heap.hole (Heap.hole p11.2)), 0)).bind fun v24 =>
    bif Nat.beq v24.2 0 then
      ((u0).bind fun q25 =>
      (ldT .any v24.1 (some (fa q25 0))).bind fun x26 =>
      (ldT (.int .i64) v24.1 (some (nwA h))).bind fun x27 =>
      (ixB 64 x26 x27).bind fun q28 =>
      (sliceArrK v24.1 64 1 none none (.pointer (some q28))).bind fun p29 =>
      (f_slices_Clone_byte_byte n p29.1 v24.1).bind fun p30 =>
      (stB 1 p30.1.1 p30.2 (some (nwA h0))).bind fun h31 =>
      (stB 1 (.int .i64 0) h31 (some (nwA h1))).bind fun h32 =>
      (ldT .any h32 (some (nwA h0))).bind fun x33 =>
      bif !isTuple x33 then
        ((ldT (.int .i64) h32 (some (nwA h1))).bind fun x34 =>
        some ((x33, (x34, ())), h32))
      else
        (none))
    else
      (bif Nat.beq v24.2 1 then
        ((ldT .any v24.1 (some (nwA h0))).bind fun x35 =>
        bif !isTuple x35 then
          ((ldT (.int .i64) v24.1 (some (nwA h1))).bind fun x36 =>
          some ((x35, (x36, ())), v24.1))
        else
          (none))
      else
        (none)))
def rs_sector_Disk_Read : Rs := [(.cell false 1 4, .any), (.cell false 1 5, (.int .i64))]
def ps_sector_Disk_Read : List Ty := [.ptr, (.int .i64)]
theorem e_sector_Disk_Read (n : Nat) (u0 : Option Addr) (u1 : Int) (h : Heap) : f_sector_Disk_Read n u0 u1 h = fB (sf_sector_Disk_Read n) (it_sector_Disk_Read n) n c2_sector_Disk_Read rs_sector_Disk_Read ps_sector_Disk_Read (u0, (u1, ())) h := by kernel_rfl
noncomputable def s_sector_Disk_Read (n : Nat) : Sf1 := mkSf ps_sector_Disk_Read rs_sector_Disk_Read fun a h => f_sector_Disk_Read n a.1 a.2.1 h

/- wicket/wicketlaw08.HomeTurned -/
def c2_wicketlaw08_HomeTurned : C2 :=
  .seq (.reg [(⟨(some 5), .box (.tmp 1), none⟩, .ptr),
      (⟨(some 7), .box (.tmp 3), none⟩, .ptr),
      (⟨(some 8), .move (.const (.bool false)), none⟩, .bool)]) <|
  .seq (.reg [(⟨(some 17), .move (.tmp 0), none⟩, (.int .i64)),
      (⟨(some 18), .bin .rem (.tmp 17) (.const (.int .i64 64)), none⟩, (.int .i64)),
      (⟨(some 19), .bin .add (.tmp 18) (.const (.int .i64 64)), none⟩, (.int .i64)),
      (⟨(some 20), .bin .rem (.tmp 19) (.const (.int .i64 64)), none⟩, (.int .i64)),
      (⟨(some 21), .move (.tmp 2), none⟩, (.int .i64)),
      (⟨(some 22), .bin .rem (.tmp 21) (.const (.int .i64 61)), none⟩, (.int .i64)),
      (⟨(some 23), .bin .add (.tmp 22) (.const (.int .i64 61)), none⟩, (.int .i64)),
      (⟨(some 24), .bin .rem (.tmp 23) (.const (.int .i64 61)), none⟩, (.int .i64)),
      (⟨(some 9), .move (.tmp 20), none⟩, (.int .i64)),
      (⟨(some 10), .move (.tmp 24), none⟩, (.int .i64))]) <|
  .seq (.reg [(⟨(some 26), .move (.tmp 9), none⟩, (.int .i64)),
      (⟨(some 27), .load true 32 (.tmp 5), none⟩, .any),
      (⟨(some 28), .call k_home_Encode [(.tmp 26), (.tmp 27)], none⟩, .any),
      (⟨(some 25), .move (.tmp 28), none⟩, .any),
      (⟨(some 29), .extract (.tmp 25) 0, none⟩, .any),
      (⟨(some 30), .extract (.tmp 25) 1, none⟩, (.int .i64)),
      (⟨(some 11), .move (.tmp 29), none⟩, .any),
      (⟨(some 12), .move (.tmp 30), none⟩, (.int .i64))]) <|
  .seq (.seq (.cutn [(41, .bool)] <|
        .reg [(⟨(some 31), .call k_wicketlaw08_awake [], none⟩, .bool),
          (⟨(some 32), .un .not (.tmp 31), none⟩, .bool),
          (⟨(some 33), .move (.tmp 32), none⟩, .bool),
          (⟨(some 34), .move (.tmp 12), some (33, false)⟩, (.int .i64)),
          (⟨(some 35), .bin .neq (.tmp 34) (.const (.int .i64 0)), some (33, false)⟩, .bool),
          (⟨(some 36), .pick (.tmp 33) (.const (.bool true)) (.tmp 35), none⟩, .bool),
          (⟨(some 37), .move (.tmp 36), none⟩, .bool),
          (⟨(some 38), .move (.tmp 11), some (37, false)⟩, .any),
          (⟨(some 39), .lenS (.tmp 38), some (37, false)⟩, (.int .i64)),
          (⟨(some 40), .bin .neq (.tmp 39) (.const (.int .i64 64)), some (37, false)⟩, .bool),
          (⟨(some 41), .pick (.tmp 37) (.const (.bool true)) (.tmp 40), none⟩, .bool)]) <|
    .cond (.tmp 41)
      (.seq (.reg [(⟨(some 8), .move (.const (.bool false)), none⟩, .bool)]) <|
      .ret)
      (.skip)) <|
  .seq (.reg [(⟨(some 42), .move (.tmp 11), none⟩, .any),
      (⟨(some 43), .call k_wicketlaw01_Own [(.tmp 42)], none⟩, .any),
      (⟨(some 13), .move (.tmp 43), none⟩, .any)]) <|
  .seq (.cutn [] <|
      .seq (.reg [(⟨(some 14), .move (.const (.int .i64 0)), none⟩, (.int .i64))]) <|
      .block 0 <|
        .loop [(14, (.int .i64))] <|
          .seq (.seq (.reg [(⟨(some 44), .move (.tmp 14), none⟩, (.int .i64)),
                (⟨(some 45), .bin .lss (.tmp 44) (.const (.int .i64 4)), none⟩, .bool)]) <|
            .cond (.tmp 45)
              (.skip)
              (.exit 0)) <|
          .seq (.block 1 <|
              .regd [(⟨0, [], false, ⟨(some 48), .move (.tmp 13), none⟩⟩, .any),
                (⟨1, [], false, ⟨(some 49), .move (.tmp 10), none⟩⟩, (.int .i64)),
                (⟨2, [], false, ⟨(some 50), .move (.tmp 14), none⟩⟩, (.int .i64)),
                (⟨3, [1, 2], false, ⟨(some 51), .bin .add (.tmp 49) (.tmp 50), none⟩⟩, (.int .i64)),
                (⟨4, [], false, ⟨(some 52), .move (.tmp 13), none⟩⟩, .any),
                (⟨5, [], false, ⟨(some 53), .move (.tmp 10), none⟩⟩, (.int .i64)),
                (⟨6, [], false, ⟨(some 54), .move (.tmp 14), none⟩⟩, (.int .i64)),
                (⟨7, [5, 6], false, ⟨(some 55), .bin .add (.tmp 53) (.tmp 54), none⟩⟩, (.int .i64)),
                (⟨8, [4, 7, 5, 6], false, ⟨(some 56), .idxSlice 1 (.tmp 52) (.tmp 55), none⟩⟩, .ptr),
                (⟨9, [8, 4, 7, 5, 6], false, ⟨(some 57), .load false 1 (.tmp 56), none⟩⟩, (.int .u8)),
                (⟨10, [], false, ⟨(some 58), .move (.tmp 14), none⟩⟩, (.int .i64)),
                (⟨11, [10], false, ⟨(some 59), .idxArr 4 1 (.tmp 7) (.tmp 58), none⟩⟩, .ptr),
                (⟨12, [11, 10], false, ⟨(some 60), .load false 1 (.tmp 59), none⟩⟩, (.int .u8)),
                (⟨13, [9, 12, 8, 4, 7, 5, 6, 11, 10], false, ⟨(some 61), .bin .xor (.tmp 57) (.tmp 60), none⟩⟩, (.int .u8)),
                (⟨14, [0, 3, 1, 2, 4, 5, 6, 7, 8, 9, 10, 11, 12, 13], false, ⟨(some 62), .idxSlice 1 (.tmp 48) (.tmp 51), none⟩⟩, .ptr),
                (⟨15, [14, 13, 0, 1, 2, 3, 4, 5, 6, 7, 8, 9, 10, 11, 12], true, ⟨none, .store 1 (.tmp 62) (.tmp 61), none⟩⟩, .any)]) <|
          .reg [(⟨(some 46), .move (.tmp 14), none⟩, (.int .i64)),
            (⟨(some 47), .bin .add (.tmp 46) (.const (.int .i64 1)), none⟩, (.int .i64)),
            (⟨(some 14), .move (.tmp 47), none⟩, (.int .i64))]) <|
  .seq (.reg [(⟨(some 64), .move (.tmp 13), none⟩, .any),
      (⟨(some 65), .move (.tmp 9), none⟩, (.int .i64)),
      (⟨(some 66), .call k_home_Decode [(.tmp 64), (.tmp 65)], none⟩, .any),
      (⟨(some 63), .move (.tmp 66), none⟩, .any),
      (⟨(some 67), .extract (.tmp 63) 0, none⟩, .any),
      (⟨(some 68), .extract (.tmp 63) 1, none⟩, (.int .i64)),
      (⟨(some 15), .alloc (List.replicate 32 (.int .u8 0)), none⟩, .ptr),
      (⟨none, .store 32 (.tmp 15) (.tmp 67), none⟩, .any),
      (⟨(some 16), .move (.tmp 68), none⟩, (.int .i64))]) <|
  .seq (.seq (.reg [(⟨(some 69), .load true 4 (.tmp 7), none⟩, .any),
        (⟨(some 70), .build (List.replicate 4 (.int .u8 0)) [], none⟩, .any),
        (⟨(some 71), .eqv false (.agg [false, false, false, false]) (.tmp 69) (.tmp 70), none⟩, .bool)]) <|
    .cond (.tmp 71)
      (.seq (.reg [(⟨(some 72), .move (.tmp 16), none⟩, (.int .i64)),
          (⟨(some 73), .bin .eql (.tmp 72) (.const (.int .i64 0)), none⟩, .bool),
          (⟨(some 74), .move (.tmp 73), none⟩, .bool),
          (⟨(some 75), .load true 32 (.tmp 15), some (74, true)⟩, .any),
          (⟨(some 76), .load true 32 (.tmp 5), some (74, true)⟩, .any),
          (⟨(some 77), .eqv false (.agg (List.replicate 32 false)) (.tmp 75) (.tmp 76), some (74, true)⟩, .bool),
          (⟨(some 78), .pick (.tmp 74) (.tmp 77) (.const (.bool false)), none⟩, .bool),
          (⟨(some 8), .move (.tmp 78), none⟩, .bool)]) <|
      .ret)
      (.skip)) <|
  .seq (.reg [(⟨(some 79), .move (.tmp 16), none⟩, (.int .i64)),
      (⟨(some 80), .bin .eql (.tmp 79) (.const (.int .i64 80)), none⟩, .bool),
      (⟨(some 81), .move (.tmp 80), none⟩, .bool),
      (⟨(some 82), .load true 32 (.tmp 15), some (81, true)⟩, .any),
      (⟨(some 83), .build (List.replicate 32 (.int .u8 0)) [], some (81, true)⟩, .any),
      (⟨(some 84), .eqv false (.agg (List.replicate 32 false)) (.tmp 82) (.tmp 83), some (81, true)⟩, .bool),
      (⟨(some 85), .pick (.tmp 81) (.tmp 84) (.const (.bool false)), none⟩, .bool),
      (⟨(some 8), .move (.tmp 85), none⟩, .bool)]) <|
  .ret
def f_wicketlaw08_HomeTurned_L17 (n : Nat) (u2 : Int) (h0 : Heap) (p7 : ((Value × Unit) × Heap)) (v8 : Int) (h9 : Heap) : Option (((Int × Unit) × Heap) ⊕ ((Unit) × Heap)) :=
  bif (decide (v8 < 4)) then
    ((ixB 1 p7.1.1 (IntKind.i64.wrap ((Int.tmod (IntKind.i64.wrap ((Int.tmod u2 61) + 61)) 61) + v8))).bind fun q10 =>
    (ldT (.int .u8) h9 (some q10)).bind fun x11 =>
    (ixA 4 1 (some (nwA h0)) v8).bind fun q12 =>
    (ldT (.int .u8) h9 (some q12)).bind fun x13 =>
    (bitB .xor .u8 x11 .u8 x13).bind fun x14 =>
    (ixB 1 p7.1.1 (IntKind.i64.wrap ((Int.tmod (IntKind.i64.wrap ((Int.tmod u2 61) + 61)) 61) + v8))).bind fun q15 =>
    (stB 1 (.int .u8 x14) h9 (some q15)).bind fun h16 =>
    some (.inl (((IntKind.i64.wrap (v8 + 1)), ()), h16)))
  else
    (some (.inr ((), h9)))
noncomputable def sf_wicketlaw08_HomeTurned (n : Nat) : Sf := sfOf [(k_home_Encode, s_home_Encode n), (k_wicketlaw08_awake, s_wicketlaw08_awake n), (k_wicketlaw01_Own, s_wicketlaw01_Own n), (k_home_Decode, s_home_Decode n)]
noncomputable def it_wicketlaw08_HomeTurned (n : Nat) : It := itOf []
def f_wicketlaw08_HomeTurned (n : Nat) (u0 : Int) (u1 : Value) (u2 : Int) (u3 : Value) (h : Heap) : Option ((Bool × Unit) × Heap) :=
  bif (cellsOf u1).all isCell then
    (bnd ((Heap.new h (.cells (cellsOf u1) false 0))) fun h0 =>
    bif (cellsOf u3).all isCell then
      (bnd ((Heap.new h0 (.cells (cellsOf u3) false 0))) fun h1 =>
      (ldA 32 h1 (some (nwA h))).bind fun cs2 =>
      (f_home_Encode n (Int.tmod (IntKind.i64.wrap ((Int.tmod u0 64) + 64)) 64) (.agg ⟨cs2⟩) h1).bind fun p3 =>
      (((f_wicketlaw08_awake n p3.2).bind fun p4 =>
        bif (!p4.1.1) then
          (some ((true, ()), p4.2))
        else
          (bif (!decide (p3.1.2.1 = 0)) then
            (some ((true, ()), p4.2))
          else
            ((lenB p3.1.1).bind fun n5 =>
            some (((!decide ((n5 : Int) = 64)), ()), p4.2)))) : Option ((Bool × Unit) × Heap)).bind fun a6 =>
      bif a6.1.1 then
        (some ((false, ()), a6.2))
      else
        ((f_wicketlaw01_Own n p3.1.1 a6.2).bind fun p7 =>
        ((loopT (fun a => f_wicketlaw08_HomeTurned_L17 n u2 h0 p7 a.1.1 a.2) n ((0, ()), p7.2)) : Option ((Unit) × Heap)).bind fun a18 =>
        (f_home_Decode n p7.1.1 (Int.tmod (IntKind.i64.wrap ((Int.tmod u0 64) + 64)) 64) a18.2).bind fun p19 =>
        bnd ((Heap.new p19.2 (.cells (List.replicate 32 (.int .u8 0)) false 0))) fun h20 =>
        (stB 32 p19.1.1 h20 (some (nwA p19.2))).bind fun h21 =>
        (ldA 4 h21 (some (nwA h0))).bind fun cs22 =>
        (fillL (List.replicate 4 (.int .u8 0)) []).bind fun cs23 =>
        (eqVals h21 (.agg [false, false, false, false]) (.agg ⟨cs22⟩) (.agg ⟨cs23⟩)).bind fun b24 =>
        bif b24 then
          (bif (decide (p19.1.2.1 = 0)) then
            ((ldA 32 h21 (some (nwA p19.2))).bind fun cs25 =>
            (ldA 32 h21 (some (nwA h))).bind fun cs26 =>
            (eqVals h21 (.agg (List.replicate 32 false)) (.agg ⟨cs25⟩) (.agg ⟨cs26⟩)).bind fun b27 =>
            some ((b27, ()), h21))
          else
            (some ((false, ()), h21)))
        else
          (bif (decide (p19.1.2.1 = 80)) then
            ((ldA 32 h21 (some (nwA p19.2))).bind fun cs28 =>
            (fillL (List.replicate 32 (.int .u8 0)) []).bind fun cs29 =>
            (eqVals h21 (.agg (List.replicate 32 false)) (.agg ⟨cs28⟩) (.agg ⟨cs29⟩)).bind fun b30 =>
            some ((b30, ()), h21))
          else
            (some ((false, ()), h21)))))
    else
      (none))
  else
    (none)
def rs_wicketlaw08_HomeTurned : Rs := [(.tmp 8, .bool)]
def ps_wicketlaw08_HomeTurned : List Ty := [(.int .i64), .any, (.int .i64), .any]
theorem e_wicketlaw08_HomeTurned (n : Nat) (u0 : Int) (u1 : Value) (u2 : Int) (u3 : Value) (h : Heap) : f_wicketlaw08_HomeTurned n u0 u1 u2 u3 h = fB (sf_wicketlaw08_HomeTurned n) (it_wicketlaw08_HomeTurned n) n c2_wicketlaw08_HomeTurned rs_wicketlaw08_HomeTurned ps_wicketlaw08_HomeTurned (u0, (u1, (u2, (u3, ())))) h := by kernel_rfl
noncomputable def s_wicketlaw08_HomeTurned (n : Nat) : Sf1 := mkSf ps_wicketlaw08_HomeTurned rs_wicketlaw08_HomeTurned fun a h => f_wicketlaw08_HomeTurned n a.1 a.2.1 a.2.2.1 a.2.2.2.1 h

/-- The table holds these. -/
structure LfT (T : Nat → Option AFun) : Prop where
  t_wicketlaw08_awake : PrimT_wicketlaw08_awake T
  t_wicketlaw01_Own : T k_wicketlaw01_Own = some ⟨List.map (·.1) rs_wicketlaw01_Own, C2.erase c2_wicketlaw01_Own, none⟩
  t_home_block : T k_home_block = some ⟨List.map (·.1) rs_home_block, C2.erase c2_home_block, none⟩
  t_octet_Join : T k_octet_Join = some ⟨List.map (·.1) rs_octet_Join, C2.erase c2_octet_Join, none⟩
  t_wicketlaw08_small : T k_wicketlaw08_small = some ⟨List.map (·.1) rs_wicketlaw08_small, C2.erase c2_wicketlaw08_small, none⟩
  t_sector_Disk_Len : T k_sector_Disk_Len = some ⟨List.map (·.1) rs_sector_Disk_Len, C2.erase c2_sector_Disk_Len, none⟩
  t_octet_may : T k_octet_may = some ⟨List.map (·.1) rs_octet_may, C2.erase c2_octet_may, none⟩
  t_sum_push : T k_sum_push = some ⟨List.map (·.1) rs_sum_push, C2.erase c2_sum_push, none⟩
  t_sector_Load : T k_sector_Load = some ⟨List.map (·.1) rs_sector_Load, C2.erase c2_sector_Load, none⟩
  t_octet_Pad : T k_octet_Pad = some ⟨List.map (·.1) rs_octet_Pad, C2.erase c2_octet_Pad, none⟩
  t_sector_Disk_asked : T k_sector_Disk_asked = some ⟨List.map (·.1) rs_sector_Disk_asked, C2.erase c2_sector_Disk_asked, none⟩
  t_slices_Clone_byte_byte : T k_slices_Clone_byte_byte = some ⟨List.map (·.1) rs_slices_Clone_byte_byte, C2.erase c2_slices_Clone_byte_byte, none⟩
  t_slices_Backward_sector_waiting_sector_waiting_1 : T k_slices_Backward_sector_waiting_sector_waiting_1 = some ⟨[], C2.erase c2_slices_Backward_sector_waiting_sector_waiting_1, none⟩
  t_super_within : T k_super_within = some ⟨List.map (·.1) rs_super_within, C2.erase c2_super_within, none⟩
  t_octet_Put : T k_octet_Put = some ⟨List.map (·.1) rs_octet_Put, C2.erase c2_octet_Put, none⟩
  t_sum_Of : T k_sum_Of = some ⟨List.map (·.1) rs_sum_Of, C2.erase c2_sum_Of, none⟩
  t_sector_Disk_Write : T k_sector_Disk_Write = some ⟨List.map (·.1) rs_sector_Disk_Write, C2.erase c2_sector_Disk_Write, none⟩
  t_slices_Backward_sector_waiting_sector_waiting : T k_slices_Backward_sector_waiting_sector_waiting = some ⟨List.map (·.1) rs_slices_Backward_sector_waiting_sector_waiting, C2.erase c2_slices_Backward_sector_waiting_sector_waiting, none⟩
  t_home_Encode : T k_home_Encode = some ⟨List.map (·.1) rs_home_Encode, C2.erase c2_home_Encode, none⟩
  t_home_Decode : T k_home_Decode = some ⟨List.map (·.1) rs_home_Decode, C2.erase c2_home_Decode, none⟩
  t_sector_Disk_Read : T k_sector_Disk_Read = some ⟨List.map (·.1) rs_sector_Disk_Read, C2.erase c2_sector_Disk_Read, none⟩
  t_wicketlaw08_HomeTurned : T k_wicketlaw08_HomeTurned = some ⟨List.map (·.1) rs_wicketlaw08_HomeTurned, C2.erase c2_wicketlaw08_HomeTurned, none⟩
variable {T : Nat → Option AFun}
theorem ok_wicketlaw08_awake (hT : LfT T) (n : Nat) : Sf1Ok T k_wicketlaw08_awake (s_wicketlaw08_awake n) := primOk_wicketlaw08_awake hT.t_wicketlaw08_awake n
theorem ok_wicketlaw01_Own (hT : LfT T) (n : Nat) : Sf1Ok T k_wicketlaw01_Own (s_wicketlaw01_Own n) := mkSf_ok (sf := sf_wicketlaw01_Own n) (it := it_wicketlaw01_Own n) (n := n) hT.t_wicketlaw01_Own sfOk_nil itOk_nil fun a h => e_wicketlaw01_Own n a.1 h
theorem ok_home_block (hT : LfT T) (n : Nat) : Sf1Ok T k_home_block (s_home_block n) := mkSf_ok (sf := sf_home_block n) (it := it_home_block n) (n := n) hT.t_home_block sfOk_nil itOk_nil fun a h => e_home_block n a.1 h
theorem ok_octet_Join (hT : LfT T) (n : Nat) : Sf1Ok T k_octet_Join (s_octet_Join n) := mkSf_ok (sf := sf_octet_Join n) (it := it_octet_Join n) (n := n) hT.t_octet_Join sfOk_nil itOk_nil fun a h => e_octet_Join n a.1 h
theorem ok_wicketlaw08_small (hT : LfT T) (n : Nat) : Sf1Ok T k_wicketlaw08_small (s_wicketlaw08_small n) := mkSf_ok (sf := sf_wicketlaw08_small n) (it := it_wicketlaw08_small n) (n := n) hT.t_wicketlaw08_small sfOk_nil itOk_nil fun a h => e_wicketlaw08_small n h
theorem ok_sector_Disk_Len (hT : LfT T) (n : Nat) : Sf1Ok T k_sector_Disk_Len (s_sector_Disk_Len n) := mkSf_ok (sf := sf_sector_Disk_Len n) (it := it_sector_Disk_Len n) (n := n) hT.t_sector_Disk_Len sfOk_nil itOk_nil fun a h => e_sector_Disk_Len n a.1 h
theorem ok_octet_may (hT : LfT T) (n : Nat) : Sf1Ok T k_octet_may (s_octet_may n) := mkSf_ok (sf := sf_octet_may n) (it := it_octet_may n) (n := n) hT.t_octet_may sfOk_nil itOk_nil fun a h => e_octet_may n a.1 h
theorem ok_sum_push (hT : LfT T) (n : Nat) : Sf1Ok T k_sum_push (s_sum_push n) := mkSf_ok (sf := sf_sum_push n) (it := it_sum_push n) (n := n) hT.t_sum_push sfOk_nil itOk_nil fun a h => e_sum_push n a.1 a.2.1 h
theorem ok_sector_Load (hT : LfT T) (n : Nat) : Sf1Ok T k_sector_Load (s_sector_Load n) := mkSf_ok (sf := sf_sector_Load n) (it := it_sector_Load n) (n := n) hT.t_sector_Load sfOk_nil itOk_nil fun a h => e_sector_Load n a.1 h
theorem ok_octet_Pad (hT : LfT T) (n : Nat) : Sf1Ok T k_octet_Pad (s_octet_Pad n) := mkSf_ok (sf := sf_octet_Pad n) (it := it_octet_Pad n) (n := n) hT.t_octet_Pad (sfOk_cons (ok_octet_Join hT n) sfOk_nil) itOk_nil fun a h => e_octet_Pad n a.1 a.2.1 h
theorem ok_sector_Disk_asked (hT : LfT T) (n : Nat) : Sf1Ok T k_sector_Disk_asked (s_sector_Disk_asked n) := mkSf_ok (sf := sf_sector_Disk_asked n) (it := it_sector_Disk_asked n) (n := n) hT.t_sector_Disk_asked sfOk_nil itOk_nil fun a h => e_sector_Disk_asked n a.1 a.2.1 h
theorem ok_slices_Clone_byte_byte (hT : LfT T) (n : Nat) : Sf1Ok T k_slices_Clone_byte_byte (s_slices_Clone_byte_byte n) := mkSf_ok (sf := sf_slices_Clone_byte_byte n) (it := it_slices_Clone_byte_byte n) (n := n) hT.t_slices_Clone_byte_byte sfOk_nil itOk_nil fun a h => e_slices_Clone_byte_byte n a.1 h
theorem ok_slices_Backward_sector_waiting_sector_waiting_1 (hT : LfT T) (n : Nat) : It1Ok T k_slices_Backward_sector_waiting_sector_waiting_1 (i_slices_Backward_sector_waiting_sector_waiting_1 n) := mkIt_ok (sf := sf_slices_Backward_sector_waiting_sector_waiting_1 n) (it := it_slices_Backward_sector_waiting_sector_waiting_1 n) (n := n) hT.t_slices_Backward_sector_waiting_sector_waiting_1 sfOk_nil itOk_nil fun V hp up y a1 a2 v => e_slices_Backward_sector_waiting_sector_waiting_1 hp up y n a2.1 v
theorem ok_super_within (hT : LfT T) (n : Nat) : Sf1Ok T k_super_within (s_super_within n) := mkSf_ok (sf := sf_super_within n) (it := it_super_within n) (n := n) hT.t_super_within sfOk_nil itOk_nil fun a h => e_super_within n a.1 a.2.1 h
theorem ok_octet_Put (hT : LfT T) (n : Nat) : Sf1Ok T k_octet_Put (s_octet_Put n) := mkSf_ok (sf := sf_octet_Put n) (it := it_octet_Put n) (n := n) hT.t_octet_Put (sfOk_cons (ok_octet_may hT n) sfOk_nil) itOk_nil fun a h => e_octet_Put n a.1 a.2.1 h
theorem ok_sum_Of (hT : LfT T) (n : Nat) : Sf1Ok T k_sum_Of (s_sum_Of n) := mkSf_ok (sf := sf_sum_Of n) (it := it_sum_Of n) (n := n) hT.t_sum_Of (sfOk_cons (ok_sum_push hT n) sfOk_nil) itOk_nil fun a h => e_sum_Of n a.1 h
theorem ok_sector_Disk_Write (hT : LfT T) (n : Nat) : Sf1Ok T k_sector_Disk_Write (s_sector_Disk_Write n) := mkSf_ok (sf := sf_sector_Disk_Write n) (it := it_sector_Disk_Write n) (n := n) hT.t_sector_Disk_Write (sfOk_cons (ok_sector_Disk_asked hT n) sfOk_nil) itOk_nil fun a h => e_sector_Disk_Write n a.1 a.2.1 a.2.2.1 h
theorem ok_slices_Backward_sector_waiting_sector_waiting (hT : LfT T) (n : Nat) : Sf1Ok T k_slices_Backward_sector_waiting_sector_waiting (s_slices_Backward_sector_waiting_sector_waiting n) := mkSf_ok (sf := sf_slices_Backward_sector_waiting_sector_waiting n) (it := it_slices_Backward_sector_waiting_sector_waiting n) (n := n) hT.t_slices_Backward_sector_waiting_sector_waiting sfOk_nil itOk_nil fun a h => e_slices_Backward_sector_waiting_sector_waiting n a.1 h
theorem ok_home_Encode (hT : LfT T) (n : Nat) : Sf1Ok T k_home_Encode (s_home_Encode n) := mkSf_ok (sf := sf_home_Encode n) (it := it_home_Encode n) (n := n) hT.t_home_Encode (sfOk_cons (ok_home_block hT n) (sfOk_cons (ok_octet_Join hT n) (sfOk_cons (ok_sum_Of hT n) (sfOk_cons (ok_octet_Put hT n) sfOk_nil)))) itOk_nil fun a h => e_home_Encode n a.1 a.2.1 h
theorem ok_home_Decode (hT : LfT T) (n : Nat) : Sf1Ok T k_home_Decode (s_home_Decode n) := mkSf_ok (sf := sf_home_Decode n) (it := it_home_Decode n) (n := n) hT.t_home_Decode (sfOk_cons (ok_home_block hT n) (sfOk_cons (ok_home_Encode hT n) sfOk_nil)) itOk_nil fun a h => e_home_Decode n a.1 a.2.1 h
theorem ok_sector_Disk_Read (hT : LfT T) (n : Nat) : Sf1Ok T k_sector_Disk_Read (s_sector_Disk_Read n) := mkSf_ok (sf := sf_sector_Disk_Read n) (it := it_sector_Disk_Read n) (n := n) hT.t_sector_Disk_Read (sfOk_cons (ok_sector_Disk_asked hT n) (sfOk_cons (ok_slices_Backward_sector_waiting_sector_waiting hT n) (sfOk_cons (ok_slices_Clone_byte_byte hT n) sfOk_nil))) (itOk_cons (ok_slices_Backward_sector_waiting_sector_waiting_1 hT n) itOk_nil) fun a h => e_sector_Disk_Read n a.1 a.2.1 h
theorem ok_wicketlaw08_HomeTurned (hT : LfT T) (n : Nat) : Sf1Ok T k_wicketlaw08_HomeTurned (s_wicketlaw08_HomeTurned n) := mkSf_ok (sf := sf_wicketlaw08_HomeTurned n) (it := it_wicketlaw08_HomeTurned n) (n := n) hT.t_wicketlaw08_HomeTurned (sfOk_cons (ok_home_Encode hT n) (sfOk_cons (ok_wicketlaw08_awake hT n) (sfOk_cons (ok_wicketlaw01_Own hT n) (sfOk_cons (ok_home_Decode hT n) sfOk_nil)))) itOk_nil fun a h => e_wicketlaw08_HomeTurned n a.1 a.2.1 a.2.2.1 a.2.2.2.1 h
end Go.Proofs.YtllggdpfdoaigaaDoor
