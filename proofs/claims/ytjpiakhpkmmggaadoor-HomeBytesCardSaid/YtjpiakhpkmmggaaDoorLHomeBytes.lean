/- The functions at hand as plain typed functions, each with the proof that it is what the abstract machine's code does. -/
import Derived.Test.YtjpiakhpkmmggaaDoorB9t
import Derived.KernelRfl
namespace Go.Proofs.YtjpiakhpkmmggaaDoor
open Go
set_option linter.unusedVariables false
set_option maxRecDepth 100000
def tab0 : Tab := { g := 1, k := .u32, zs := [0, 498536548, 997073096, 651767980, 1994146192, 1802195444, 1303535960, 1342533948, 3988292384, 4027552580, 3604390888, 3412177804, 2607071920, 2262029012, 2685067896, 3183342108] }
def tab1 : Tab := { g := 0, k := .i64, zs := [1, 1, 1, 1, 1, 1, 1, 3, 8, 8] }
def tabsL : List Tab := [tab0, tab1]
def k_var_s_door_gosem_cut_vars_holds_initialisers_alone_see_the_manifest_s_row_cutvarsword_look_11_test_files_too : Nat := 59
def k_var_s_door_the_look_of_gosem_cut_vars_went_over_the_folder_that_the_caller_named_as_the_repository_s_root_look_11 : Nat := 60
def k_var_s_door_sum_halves_is_laid_by_its_own_initialiser_plain_data_look_11 : Nat := 61
def k_var_s_door_super_widths_is_laid_by_its_own_initialiser_plain_data_look_11 : Nat := 62
def k_wicketlaw08_awake : Nat := 4
def k_wicketlaw01_Held : Nat := 10
def k_wicketlaw01_Turn : Nat := 11
def k_wicketlaw01_Own : Nat := 12
def k_wicketlaw01_Apart : Nat := 13
def k_wicketlaw08_small : Nat := 15
def k_sector_Disk_Len : Nat := 16
def k_home_block : Nat := 20
def k_octet_Join : Nat := 21
def k_sector_Load : Nat := 25
def k_wicketref08_number : Nat := 29
def k_octet_may : Nat := 31
def k_sum_push : Nat := 32
def k_octet_Pad : Nat := 34
def k_sector_Disk_asked : Nat := 36
def k_slices_Clone_byte_byte : Nat := 38
def k_wicketref02_Push : Nat := 39
def k_slices_Backward_sector_waiting_sector_waiting_1 : Nat := 41
def k_super_within : Nat := 42
def k_wicketlaw01_Roomy : Nat := 8
def k_octet_Put : Nat := 22
def k_sum_Of : Nat := 23
def k_sector_Disk_Write : Nat := 27
def k_wicketref02_Of : Nat := 30
def k_slices_Backward_sector_waiting_sector_waiting : Nat := 37
def k_super_Config : Nat := 40
def k_home_Encode : Nat := 7
def k_home_Decode : Nat := 9
def k_wicketref08_Summed : Nat := 19
def k_sector_Disk_Read : Nat := 28
def k_super_Check : Nat := 33
def k_home_fits : Nat := 35
def k_wicketref08_Encode : Nat := 5
def k_wicketref08_Decode : Nat := 6
def k_super_Encode : Nat := 24
def k_home_has : Nat := 26
def k_wicketlaw08_HomeBytes : Nat := 3
def k_home_New : Nat := 14
def k_home_Save : Nat := 17
def k_home_Load : Nat := 18

def f_wicketlaw08_awake (n : Nat) (h : Heap) : Option ((Bool × Unit) × Heap) := yesTB tabsL h
noncomputable def s_wicketlaw08_awake (n : Nat) : Sf1 := mkSf [] [(.tmp 0, .bool)] fun a h => f_wicketlaw08_awake n h
def PrimT_wicketlaw08_awake (T : Nat → Option AFun) : Prop := T k_wicketlaw08_awake = some ⟨[], .skip, some (yesT tabsL)⟩
theorem primOk_wicketlaw08_awake {T : Nat → Option AFun} (hT : PrimT_wicketlaw08_awake T) (n : Nat) : Sf1Ok T k_wicketlaw08_awake (s_wicketlaw08_awake n) := yesT_sf hT

/- wicket/wicketlaw01.Held -/
def c2_wicketlaw01_Held : C2 :=
  .seq (.reg [(⟨(some 4), .move (.const (.bool false)), none⟩, .bool)]) <|
  .seq (.reg [(⟨(some 6), .move (.tmp 0), none⟩, .any),
      (⟨(some 7), .move (.tmp 1), none⟩, .any),
      (⟨(some 8), .lenS (.tmp 7), none⟩, (.int .i64)),
      (⟨(some 9), .bin .add (.tmp 8) (.const (.int .i64 2)), none⟩, (.int .i64)),
      (⟨(some 10), .slice 1 (.tmp 6) none (some (.tmp 9)) none, none⟩, .any),
      (⟨(some 5), .move (.tmp 10), none⟩, .any)]) <|
  .seq (.regd [(⟨0, [], false, ⟨(some 11), .move (.tmp 5), none⟩⟩, .any),
      (⟨1, [], false, ⟨(some 12), .move (.tmp 1), none⟩⟩, .any),
      (⟨2, [1], false, ⟨(some 13), .lenS (.tmp 12), none⟩⟩, (.int .i64)),
      (⟨3, [0, 2, 1], false, ⟨(some 14), .slice 1 (.tmp 11) none (some (.tmp 13)) none, none⟩⟩, .any),
      (⟨4, [3, 0, 2, 1], false, ⟨(some 15), .toStr (.tmp 14), none⟩⟩, .any),
      (⟨5, [], false, ⟨(some 16), .move (.tmp 1), none⟩⟩, .any),
      (⟨6, [5], false, ⟨(some 17), .toStr (.tmp 16), none⟩⟩, .any),
      (⟨7, [4, 6, 3, 0, 2, 1, 5], false, ⟨(some 18), .bins .eql (.tmp 15) (.tmp 17), none⟩⟩, .bool),
      (⟨8, [7, 4, 6, 3, 0, 2, 1, 5], false, ⟨(some 19), .move (.tmp 18), none⟩⟩, .bool),
      (⟨9, [8, 7, 4, 6, 3, 0, 2, 1, 5], false, ⟨(some 20), .move (.tmp 5), some (19, true)⟩⟩, .any),
      (⟨10, [8, 7, 4, 6, 3, 0, 2, 1, 5], false, ⟨(some 21), .move (.tmp 1), some (19, true)⟩⟩, .any),
      (⟨11, [10, 8, 7, 4, 6, 3, 0, 2, 1, 5], false, ⟨(some 22), .lenS (.tmp 21), some (19, true)⟩⟩, (.int .i64)),
      (⟨12, [9, 11, 8, 7, 4, 6, 3, 0, 2, 1, 5, 10], false, ⟨(some 23), .idxSlice 1 (.tmp 20) (.tmp 22), some (19, true)⟩⟩, .ptr),
      (⟨13, [12, 8, 9, 11, 7, 4, 6, 3, 0, 2, 1, 5, 10], false, ⟨(some 24), .load false 1 (.tmp 23), some (19, true)⟩⟩, (.int .u8)),
      (⟨14, [13, 8, 12, 9, 11, 7, 4, 6, 3, 0, 2, 1, 5, 10], false, ⟨(some 25), .bin .eql (.tmp 24) (.const (.int .u8 90)), some (19, true)⟩⟩, .bool),
      (⟨15, [8, 14, 7, 4, 6, 3, 0, 2, 1, 5, 13, 12, 9, 11, 10], false, ⟨(some 26), .pick (.tmp 19) (.tmp 25) (.const (.bool false)), none⟩⟩, .bool),
      (⟨16, [15, 8, 14, 7, 4, 6, 3, 0, 2, 1, 5, 13, 12, 9, 11, 10], false, ⟨(some 27), .move (.tmp 26), none⟩⟩, .bool),
      (⟨17, [16, 15, 8, 14, 7, 4, 6, 3, 0, 2, 1, 5, 13, 12, 9, 11, 10], false, ⟨(some 28), .move (.tmp 5), some (27, true)⟩⟩, .any),
      (⟨18, [16, 15, 8, 14, 7, 4, 6, 3, 0, 2, 1, 5, 13, 12, 9, 11, 10], false, ⟨(some 29), .move (.tmp 1), some (27, true)⟩⟩, .any),
      (⟨19, [18, 16, 15, 8, 14, 7, 4, 6, 3, 0, 2, 1, 5, 13, 12, 9, 11, 10], false, ⟨(some 30), .lenS (.tmp 29), some (27, true)⟩⟩, (.int .i64)),
      (⟨20, [19, 16, 18, 15, 8, 14, 7, 4, 6, 3, 0, 2, 1, 5, 13, 12, 9, 11, 10], false, ⟨(some 31), .bin .add (.tmp 30) (.const (.int .i64 1)), some (27, true)⟩⟩, (.int .i64)),
      (⟨21, [17, 20, 16, 15, 8, 14, 7, 4, 6, 3, 0, 2, 1, 5, 13, 12, 9, 11, 10, 19, 18], false, ⟨(some 32), .idxSlice 1 (.tmp 28) (.tmp 31), some (27, true)⟩⟩, .ptr),
      (⟨22, [21, 16, 17, 20, 15, 8, 14, 7, 4, 6, 3, 0, 2, 1, 5, 13, 12, 9, 11, 10, 19, 18], false, ⟨(some 33), .load false 1 (.tmp 32), some (27, true)⟩⟩, (.int .u8)),
      (⟨23, [22, 16, 21, 17, 20, 15, 8, 14, 7, 4, 6, 3, 0, 2, 1, 5, 13, 12, 9, 11, 10, 19, 18], false, ⟨(some 34), .bin .eql (.tmp 33) (.const (.int .u8 165)), some (27, true)⟩⟩, .bool),
      (⟨24, [16, 23, 15, 8, 14, 7, 4, 6, 3, 0, 2, 1, 5, 13, 12, 9, 11, 10, 22, 21, 17, 20, 19, 18], false, ⟨(some 35), .pick (.tmp 27) (.tmp 34) (.const (.bool false)), none⟩⟩, .bool),
      (⟨25, [24, 16, 0, 1, 2, 3, 4, 5, 6, 7, 8, 9, 10, 11, 12, 13, 14, 15, 17, 18, 19, 20, 21, 22, 23], false, ⟨(some 4), .move (.tmp 35), none⟩⟩, .bool)]) <|
  .ret
noncomputable def sf_wicketlaw01_Held (n : Nat) : Sf := sfOf []
noncomputable def it_wicketlaw01_Held (n : Nat) : It := itOf []
def f_wicketlaw01_Held (n : Nat) (u0 : Value) (u1 : Value) (h : Heap) : Option ((Bool × Unit) × Heap) :=
  (lenB u1).bind fun n0 =>
  (sliceK h 1 none (some (.int .i64 (IntKind.i64.wrap ((n0 : Int) + 2)))) none u0).bind fun p1 =>
  (lenB u1).bind fun n2 =>
  (sliceK h 1 none (some (.int .i64 (n2 : Int))) none p1.1).bind fun p3 =>
  (toStrK h p3.1).bind fun p4 =>
  (toStrK h u1).bind fun p5 =>
  (binsT .bool h .eql p4.1 p5.1).bind fun x6 =>
  bif x6 then
    ((lenB u1).bind fun n7 =>
    (ixB 1 p1.1 (n7 : Int)).bind fun q8 =>
    (ldT (.int .u8) h (some q8)).bind fun x9 =>
    bif (decide (x9 = 90)) then
      ((lenB u1).bind fun n10 =>
      (ixB 1 p1.1 (IntKind.i64.wrap ((n10 : Int) + 1))).bind fun q11 =>
      (ldT (.int .u8) h (some q11)).bind fun x12 =>
      some (((decide (x12 = 165)), ()), h))
    else
      (some ((false, ()), h)))
  else
    (some ((false, ()), h))
def rs_wicketlaw01_Held : Rs := [(.tmp 4, .bool)]
def ps_wicketlaw01_Held : List Ty := [.any, .any]
theorem e_wicketlaw01_Held (n : Nat) (u0 : Value) (u1 : Value) (h : Heap) : f_wicketlaw01_Held n u0 u1 h = fB (sf_wicketlaw01_Held n) (it_wicketlaw01_Held n) n c2_wicketlaw01_Held rs_wicketlaw01_Held ps_wicketlaw01_Held (u0, (u1, ())) h := by kernel_rfl
noncomputable def s_wicketlaw01_Held (n : Nat) : Sf1 := mkSf ps_wicketlaw01_Held rs_wicketlaw01_Held fun a h => f_wicketlaw01_Held n a.1 a.2.1 h

/- wicket/wicketlaw01.Turn -/
def c2_wicketlaw01_Turn : C2 :=
  .seq (.reg [(⟨(some 2), .move (.const (.int .i64 0)), none⟩, (.int .i64))]) <|
  .block 0 <|
    .loop [(2, (.int .i64))] <|
      .seq (.seq (.reg [(⟨(some 3), .move (.tmp 2), none⟩, (.int .i64)),
            (⟨(some 4), .move (.tmp 0), none⟩, .any),
            (⟨(some 5), .lenS (.tmp 4), none⟩, (.int .i64)),
            (⟨(some 6), .bin .lss (.tmp 3) (.tmp 5), none⟩, .bool)]) <|
        .cond (.tmp 6)
          (.skip)
          (.exit 0)) <|
      .seq (.block 1 <|
          .reg [(⟨(some 9), .move (.tmp 0), none⟩, .any),
            (⟨(some 10), .move (.tmp 2), none⟩, (.int .i64)),
            (⟨(some 11), .move (.tmp 0), none⟩, .any),
            (⟨(some 12), .move (.tmp 2), none⟩, (.int .i64)),
            (⟨(some 13), .idxSlice 1 (.tmp 11) (.tmp 12), none⟩, .ptr),
            (⟨(some 14), .load false 1 (.tmp 13), none⟩, (.int .u8)),
            (⟨(some 15), .bin .xor (.tmp 14) (.const (.int .u8 1)), none⟩, (.int .u8)),
            (⟨(some 16), .idxSlice 1 (.tmp 9) (.tmp 10), none⟩, .ptr),
            (⟨none, .store 1 (.tmp 16) (.tmp 15), none⟩, .any)]) <|
      .reg [(⟨(some 7), .move (.tmp 2), none⟩, (.int .i64)),
        (⟨(some 8), .bin .add (.tmp 7) (.const (.int .i64 1)), none⟩, (.int .i64)),
        (⟨(some 2), .move (.tmp 8), none⟩, (.int .i64))]
def f_wicketlaw01_Turn_L8 (n : Nat) (u0 : Value) (v0 : Int) (h1 : Heap) : Option (((Int × Unit) × Heap) ⊕ ((Unit) × Heap)) :=
  (lenB u0).bind fun n2 =>
  bif (decide (v0 < (n2 : Int))) then
    ((ixB 1 u0 v0).bind fun q3 =>
    (ldT (.int .u8) h1 (some q3)).bind fun x4 =>
    (bitB .xor .u8 x4 .u8 1).bind fun x5 =>
    (ixB 1 u0 v0).bind fun q6 =>
    (stB 1 (.int .u8 x5) h1 (some q6)).bind fun h7 =>
    some (.inl (((IntKind.i64.wrap (v0 + 1)), ()), h7)))
  else
    (some (.inr ((), h1)))
noncomputable def sf_wicketlaw01_Turn (n : Nat) : Sf := sfOf []
noncomputable def it_wicketlaw01_Turn (n : Nat) : It := itOf []
def f_wicketlaw01_Turn (n : Nat) (u0 : Value) (h : Heap) : Option ((Unit) × Heap) :=
  loopT (fun a => f_wicketlaw01_Turn_L8 n u0 a.1.1 a.2) n ((0, ()), h)
def rs_wicketlaw01_Turn : Rs := []
def ps_wicketlaw01_Turn : List Ty := [.any]
theorem e_wicketlaw01_Turn (n : Nat) (u0 : Value) (h : Heap) : f_wicketlaw01_Turn n u0 h = fB (sf_wicketlaw01_Turn n) (it_wicketlaw01_Turn n) n c2_wicketlaw01_Turn rs_wicketlaw01_Turn ps_wicketlaw01_Turn (u0, ()) h := by kernel_rfl
noncomputable def s_wicketlaw01_Turn (n : Nat) : Sf1 := mkSf ps_wicketlaw01_Turn rs_wicketlaw01_Turn fun a h => f_wicketlaw01_Turn n a.1 h

/- wicket/wicketlaw01.Own -/
def c2_wicketlaw01_Own : C2 :=
  .seq (.reg [(⟨(some 2), .move (.const (.slice none 0 0)), none⟩, .any)]) <|
  .seq (.reg [(⟨(some 3), .buildSlice 0 1 [] [], none⟩, .any),
      (⟨(some 4), .move (.tmp 0), none⟩, .any),
      (⟨(some 5), .append 1 1 (.tmp 3) (.tmp 4), none⟩, .any),
      (⟨(some 2), .move (.tmp 5), none⟩, .any)]) <|
  .ret
noncomputable def sf_wicketlaw01_Own (n : Nat) : Sf := sfOf []
noncomputable def it_wicketlaw01_Own (n : Nat) : It := itOf []
def f_wicketlaw01_Own (n : Nat) (u0 : Value) (h : Heap) : Option ((Value × Unit) × Heap) :=
  (fillL [] []).bind fun cs0 =>
  bnd ((Heap.new h (.cells cs0 false 1))) fun h1 =>
  (appendK h1 1 1 (.slice (some ⟨Heap.next h, 0, some 0⟩) 0 0) u0).bind fun p2 =>
  bif !isTuple p2.1 then
    (some ((p2.1, ()), p2.2))
  else
    (none)
def rs_wicketlaw01_Own : Rs := [(.tmp 2, .any)]
def ps_wicketlaw01_Own : List Ty := [.any]
theorem e_wicketlaw01_Own (n : Nat) (u0 : Value) (h : Heap) : f_wicketlaw01_Own n u0 h = fB (sf_wicketlaw01_Own n) (it_wicketlaw01_Own n) n c2_wicketlaw01_Own rs_wicketlaw01_Own ps_wicketlaw01_Own (u0, ()) h := by kernel_rfl
noncomputable def s_wicketlaw01_Own (n : Nat) : Sf1 := mkSf ps_wicketlaw01_Own rs_wicketlaw01_Own fun a h => f_wicketlaw01_Own n a.1 h

/- wicket/wicketlaw01.Apart -/
def c2_wicketlaw01_Apart : C2 :=
  .seq (.reg [(⟨none, .clrS, none⟩, .any)]) <|
  .seq (.reg [(⟨(some 2), .move (.const (.bool false)), none⟩, .bool)]) <|
  .seq (.cutn [] <|
      .seq (.reg [(⟨(some 3), .move (.const (.int .i64 0)), none⟩, (.int .i64))]) <|
      .block 0 <|
        .loop [(3, (.int .i64))] <|
          .seq (.seq (.reg [(⟨(some 14), .move (.tmp 3), none⟩, (.int .i64)),
                (⟨(some 15), .move (.tmp 0), none⟩, .any),
                (⟨(some 16), .lenS (.tmp 15), none⟩, (.int .i64)),
                (⟨(some 17), .bin .lss (.tmp 14) (.tmp 16), none⟩, .bool)]) <|
            .cond (.tmp 17)
              (.skip)
              (.exit 0)) <|
          .seq (.cutn [] <|
              .block 1 <|
                .seq (.reg [(⟨(some 4), .move (.const (.int .i64 0)), none⟩, (.int .i64))]) <|
                .block 2 <|
                  .loop [(4, (.int .i64))] <|
                    .seq (.seq (.reg [(⟨(some 20), .move (.tmp 4), none⟩, (.int .i64)),
                          (⟨(some 21), .move (.tmp 0), none⟩, .any),
                          (⟨(some 22), .move (.tmp 3), none⟩, (.int .i64)),
                          (⟨(some 23), .idxSlice 1 (.tmp 21) (.tmp 22), none⟩, .ptr),
                          (⟨(some 24), .loadS false 1 (.tmp 23), none⟩, .any),
                          (⟨(some 25), .lenS (.tmp 24), none⟩, (.int .i64)),
                          (⟨(some 26), .bin .lss (.tmp 20) (.tmp 25), none⟩, .bool)]) <|
                      .cond (.tmp 26)
                        (.skip)
                        (.exit 2)) <|
                    .seq (.block 3 <|
                        .reg [(⟨(some 29), .move (.tmp 0), none⟩, .any),
                          (⟨(some 30), .move (.tmp 3), none⟩, (.int .i64)),
                          (⟨(some 31), .idxSlice 1 (.tmp 29) (.tmp 30), none⟩, .ptr),
                          (⟨(some 32), .loadS false 1 (.tmp 31), none⟩, .any),
                          (⟨(some 33), .move (.tmp 4), none⟩, (.int .i64)),
                          (⟨(some 34), .move (.tmp 3), none⟩, (.int .i64)),
                          (⟨(some 35), .bin .add (.tmp 34) (.const (.int .i64 1)), none⟩, (.int .i64)),
                          (⟨(some 36), .conv .u8 (.tmp 35), none⟩, (.int .u8)),
                          (⟨(some 37), .idxSlice 1 (.tmp 32) (.tmp 33), none⟩, .ptr),
                          (⟨none, .store 1 (.tmp 37) (.tmp 36), none⟩, .any)]) <|
                    .reg [(⟨(some 27), .move (.tmp 4), none⟩, (.int .i64)),
                      (⟨(some 28), .bin .add (.tmp 27) (.const (.int .i64 1)), none⟩, (.int .i64)),
                      (⟨(some 4), .move (.tmp 28), none⟩, (.int .i64))]) <|
          .reg [(⟨(some 18), .move (.tmp 3), none⟩, (.int .i64)),
            (⟨(some 19), .bin .add (.tmp 18) (.const (.int .i64 1)), none⟩, (.int .i64)),
            (⟨(some 3), .move (.tmp 19), none⟩, (.int .i64))]) <|
  .seq (.reg [(⟨(some 5), .move (.const (.slice none 0 0)), none⟩, .any)]) <|
  .seq (.cutn [(5, .any)] <|
      .seq (.reg [(⟨(some 6), .move (.const (.int .i64 0)), none⟩, (.int .i64))]) <|
      .block 4 <|
        .loop [(5, .any), (6, (.int .i64))] <|
          .seq (.seq (.reg [(⟨(some 38), .move (.tmp 6), none⟩, (.int .i64)),
                (⟨(some 39), .move (.tmp 0), none⟩, .any),
                (⟨(some 40), .lenS (.tmp 39), none⟩, (.int .i64)),
                (⟨(some 41), .bin .lss (.tmp 38) (.tmp 40), none⟩, .bool)]) <|
            .cond (.tmp 41)
              (.skip)
              (.exit 4)) <|
          .seq (.cutn [(5, .any)] <|
              .block 5 <|
                .seq (.reg [(⟨(some 44), .move (.tmp 0), none⟩, .any),
                    (⟨(some 45), .move (.tmp 6), none⟩, (.int .i64)),
                    (⟨(some 46), .idxSlice 1 (.tmp 44) (.tmp 45), none⟩, .ptr),
                    (⟨(some 47), .loadS false 1 (.tmp 46), none⟩, .any),
                    (⟨(some 7), .move (.tmp 47), none⟩, .any)]) <|
                .seq (.cutn [(5, .any), (7, .any)] <|
                    .seq (.reg [(⟨(some 8), .move (.const (.int .i64 0)), none⟩, (.int .i64))]) <|
                    .block 6 <|
                      .loop [(5, .any), (7, .any), (8, (.int .i64))] <|
                        .seq (.seq (.reg [(⟨(some 48), .move (.tmp 8), none⟩, (.int .i64)),
                              (⟨(some 49), .bin .lss (.tmp 48) (.const (.int .i64 80)), none⟩, .bool)]) <|
                          .cond (.tmp 49)
                            (.skip)
                            (.exit 6)) <|
                        .seq (.cutn [(5, .any), (7, .any)] <|
                            .block 7 <|
                              .seq (.reg [(⟨(some 52), .move (.tmp 7), none⟩, .any),
                                  (⟨(some 53), .move (.tmp 6), none⟩, (.int .i64)),
                                  (⟨(some 54), .bin .add (.tmp 53) (.const (.int .i64 101)), none⟩, (.int .i64)),
                                  (⟨(some 55), .conv .u8 (.tmp 54), none⟩, (.int .u8)),
                                  (⟨(some 56), .buildSlice 1 1 [(.int .u8 0)] [(0, 1, (.tmp 55))], none⟩, .any),
                                  (⟨(some 57), .appendS 1 1 (.tmp 52) (.tmp 56), none⟩, .any),
                                  (⟨(some 7), .move (.tmp 57), none⟩, .any)]) <|
                              .seq (.reg [(⟨(some 58), .move (.tmp 8), none⟩, (.int .i64)),
                                  (⟨(some 59), .bin .lss (.tmp 58) (.const (.int .i64 16)), none⟩, .bool)]) <|
                              .cond (.tmp 59)
                                (.reg [(⟨(some 60), .move (.tmp 5), none⟩, .any),
                                  (⟨(some 61), .move (.tmp 7), none⟩, .any),
                                  (⟨(some 62), .buildSlice 1 1 [(.slice none 0 0)] [(0, 1, (.tmp 61))], none⟩, .any),
                                  (⟨(some 63), .appendS 24 1 (.tmp 60) (.tmp 62), none⟩, .any),
                                  (⟨(some 5), .move (.tmp 63), none⟩, .any)])
                                (.skip)) <|
                        .reg [(⟨(some 50), .move (.tmp 8), none⟩, (.int .i64)),
                          (⟨(some 51), .bin .add (.tmp 50) (.const (.int .i64 1)), none⟩, (.int .i64)),
                          (⟨(some 8), .move (.tmp 51), none⟩, (.int .i64))]) <|
                .reg [(⟨(some 64), .move (.tmp 5), none⟩, .any),
                  (⟨(some 65), .move (.tmp 7), none⟩, .any),
                  (⟨(some 66), .buildSlice 1 1 [(.slice none 0 0)] [(0, 1, (.tmp 65))], none⟩, .any),
                  (⟨(some 67), .appendS 24 1 (.tmp 64) (.tmp 66), none⟩, .any),
                  (⟨(some 5), .move (.tmp 67), none⟩, .any)]) <|
          .reg [(⟨(some 42), .move (.tmp 6), none⟩, (.int .i64)),
            (⟨(some 43), .bin .add (.tmp 42) (.const (.int .i64 1)), none⟩, (.int .i64)),
            (⟨(some 6), .move (.tmp 43), none⟩, (.int .i64))]) <|
  .seq (.seq (.reg [(⟨(some 9), .move (.const (.int .i64 0)), none⟩, (.int .i64))]) <|
    .block 8 <|
      .loop [(9, (.int .i64))] <|
        .seq (.seq (.reg [(⟨(some 68), .move (.tmp 9), none⟩, (.int .i64)),
              (⟨(some 69), .move (.tmp 0), none⟩, .any),
              (⟨(some 70), .lenS (.tmp 69), none⟩, (.int .i64)),
              (⟨(some 71), .bin .lss (.tmp 68) (.tmp 70), none⟩, .bool)]) <|
          .cond (.tmp 71)
            (.skip)
            (.exit 8)) <|
        .seq (.cut [] <|
            .block 9 <|
              .seq (.cut [] <|
                  .seq (.reg [(⟨(some 10), .move (.const (.int .i64 0)), none⟩, (.int .i64))]) <|
                  .block 10 <|
                    .loop [(10, (.int .i64))] <|
                      .seq (.seq (.reg [(⟨(some 74), .move (.tmp 10), none⟩, (.int .i64)),
                            (⟨(some 75), .move (.tmp 0), none⟩, .any),
                            (⟨(some 76), .move (.tmp 9), none⟩, (.int .i64)),
                            (⟨(some 77), .idxSlice 1 (.tmp 75) (.tmp 76), none⟩, .ptr),
                            (⟨(some 78), .loadS false 1 (.tmp 77), none⟩, .any),
                            (⟨(some 79), .lenS (.tmp 78), none⟩, (.int .i64)),
                            (⟨(some 80), .bin .lss (.tmp 74) (.tmp 79), none⟩, .bool)]) <|
                        .cond (.tmp 80)
                          (.skip)
                          (.exit 10)) <|
                      .seq (.block 11 <|
                          .seq (.reg [(⟨(some 83), .move (.tmp 0), none⟩, .any),
                              (⟨(some 84), .move (.tmp 9), none⟩, (.int .i64)),
                              (⟨(some 85), .idxSlice 1 (.tmp 83) (.tmp 84), none⟩, .ptr),
                              (⟨(some 86), .loadS false 1 (.tmp 85), none⟩, .any),
                              (⟨(some 87), .move (.tmp 10), none⟩, (.int .i64)),
                              (⟨(some 88), .idxSlice 1 (.tmp 86) (.tmp 87), none⟩, .ptr),
                              (⟨(some 89), .loadS false 1 (.tmp 88), none⟩, (.int .u8)),
                              (⟨(some 90), .move (.tmp 9), none⟩, (.int .i64)),
                              (⟨(some 91), .bin .add (.tmp 90) (.const (.int .i64 1)), none⟩, (.int .i64)),
                              (⟨(some 92), .conv .u8 (.tmp 91), none⟩, (.int .u8)),
                              (⟨(some 93), .bin .neq (.tmp 89) (.tmp 92), none⟩, .bool)]) <|
                          .cond (.tmp 93)
                            (.seq (.reg [(⟨(some 2), .move (.const (.bool false)), none⟩, .bool)]) <|
                            .ret)
                            (.skip)) <|
                      .reg [(⟨(some 81), .move (.tmp 10), none⟩, (.int .i64)),
                        (⟨(some 82), .bin .add (.tmp 81) (.const (.int .i64 1)), none⟩, (.int .i64)),
                        (⟨(some 10), .move (.tmp 82), none⟩, (.int .i64))]) <|
              .seq (.reg [(⟨(some 11), .move (.const (.int .i64 0)), none⟩, (.int .i64))]) <|
              .block 12 <|
                .loop [(11, (.int .i64))] <|
                  .seq (.seq (.reg [(⟨(some 94), .move (.tmp 11), none⟩, (.int .i64)),
                        (⟨(some 95), .bin .lss (.tmp 94) (.const (.int .i64 17)), none⟩, .bool)]) <|
                    .cond (.tmp 95)
                      (.skip)
                      (.exit 12)) <|
                  .seq (.cut [] <|
                      .block 13 <|
                        .seq (.reg [(⟨(some 98), .move (.tmp 5), none⟩, .any),
                            (⟨(some 99), .move (.tmp 9), none⟩, (.int .i64)),
                            (⟨(some 100), .bin .mul (.const (.int .i64 17)) (.tmp 99), none⟩, (.int .i64)),
                            (⟨(some 101), .move (.tmp 11), none⟩, (.int .i64)),
                            (⟨(some 102), .bin .add (.tmp 100) (.tmp 101), none⟩, (.int .i64)),
                            (⟨(some 103), .idxSlice 1 (.tmp 98) (.tmp 102), none⟩, .ptr),
                            (⟨(some 104), .loadS false 1 (.tmp 103), none⟩, .any),
                            (⟨(some 12), .move (.tmp 104), none⟩, .any)]) <|
                        .seq (.reg [(⟨(some 105), .move (.tmp 0), none⟩, .any),
                            (⟨(some 106), .move (.tmp 9), none⟩, (.int .i64)),
                            (⟨(some 107), .idxSlice 1 (.tmp 105) (.tmp 106), none⟩, .ptr),
                            (⟨(some 108), .loadS false 1 (.tmp 107), none⟩, .any),
                            (⟨(some 109), .lenS (.tmp 108), none⟩, (.int .i64)),
                            (⟨(some 13), .move (.tmp 109), none⟩, (.int .i64))]) <|
                        .block 14 <|
                          .loop [(13, (.int .i64))] <|
                            .seq (.seq (.reg [(⟨(some 110), .move (.tmp 13), none⟩, (.int .i64)),
                                  (⟨(some 111), .move (.tmp 12), none⟩, .any),
                                  (⟨(some 112), .lenS (.tmp 111), none⟩, (.int .i64)),
                                  (⟨(some 113), .bin .lss (.tmp 110) (.tmp 112), none⟩, .bool)]) <|
                              .cond (.tmp 113)
                                (.skip)
                                (.exit 14)) <|
                            .seq (.block 15 <|
                                .seq (.reg [(⟨(some 116), .move (.tmp 12), none⟩, .any),
                                    (⟨(some 117), .move (.tmp 13), none⟩, (.int .i64)),
                                    (⟨(some 118), .idxSlice 1 (.tmp 116) (.tmp 117), none⟩, .ptr),
                                    (⟨(some 119), .loadS false 1 (.tmp 118), none⟩, (.int .u8)),
                                    (⟨(some 120), .move (.tmp 9), none⟩, (.int .i64)),
                                    (⟨(some 121), .bin .add (.tmp 120) (.const (.int .i64 101)), none⟩, (.int .i64)),
                                    (⟨(some 122), .conv .u8 (.tmp 121), none⟩, (.int .u8)),
                                    (⟨(some 123), .bin .neq (.tmp 119) (.tmp 122), none⟩, .bool)]) <|
                                .cond (.tmp 123)
                                  (.seq (.reg [(⟨(some 2), .move (.const (.bool false)), none⟩, .bool)]) <|
                                  .ret)
                                  (.skip)) <|
                            .reg [(⟨(some 114), .move (.tmp 13), none⟩, (.int .i64)),
                              (⟨(some 115), .bin .add (.tmp 114) (.const (.int .i64 1)), none⟩, (.int .i64)),
                              (⟨(some 13), .move (.tmp 115), none⟩, (.int .i64))]) <|
                  .reg [(⟨(some 96), .move (.tmp 11), none⟩, (.int .i64)),
                    (⟨(some 97), .bin .add (.tmp 96) (.const (.int .i64 1)), none⟩, (.int .i64)),
                    (⟨(some 11), .move (.tmp 97), none⟩, (.int .i64))]) <|
        .reg [(⟨(some 72), .move (.tmp 9), none⟩, (.int .i64)),
          (⟨(some 73), .bin .add (.tmp 72) (.const (.int .i64 1)), none⟩, (.int .i64)),
          (⟨(some 9), .move (.tmp 73), none⟩, (.int .i64))]) <|
  .seq (.reg [(⟨(some 2), .move (.const (.bool true)), none⟩, .bool)]) <|
  .ret
def f_wicketlaw01_Apart_L13 (n : Nat) (u0 : Value) (v1 : Int) (v4 : Int) (h5 : Heap) : Option (((Int × Unit) × Heap) ⊕ ((Unit) × Heap)) :=
  (ixB 1 u0 v1).bind fun q6 =>
  (ldTS .any h5 (some q6)).bind fun x7 =>
  (lenB x7).bind fun n8 =>
  bif (decide (v4 < (n8 : Int))) then
    ((ixB 1 u0 v1).bind fun q9 =>
    (ldTS .any h5 (some q9)).bind fun x10 =>
    (ixB 1 x10 v4).bind fun q11 =>
    (stB 1 (.int .u8 (IntKind.u8.wrap ((IntKind.i64.wrap (v1 + 1))))) h5 (some q11)).bind fun h12 =>
    some (.inl (((IntKind.i64.wrap (v4 + 1)), ()), h12)))
  else
    (some (.inr ((), h5)))
def f_wicketlaw01_Apart_L15 (n : Nat) (u0 : Value) (v1 : Int) (h2 : Heap) : Option (((Int × Unit) × Heap) ⊕ ((Unit) × Heap)) :=
  (lenB u0).bind fun n3 =>
  bif (decide (v1 < (n3 : Int))) then
    (((loopT (fun a => f_wicketlaw01_Apart_L13 n u0 v1 a.1.1 a.2) n ((0, ()), h2)) : Option ((Unit) × Heap)).bind fun a14 =>
    some (.inl (((IntKind.i64.wrap (v1 + 1)), ()), a14.2)))
  else
    (some (.inr ((), h2)))
def f_wicketlaw01_Apart_L34 (n : Nat) (v18 : Int) (v23 : Value) (v24 : Value) (v25 : Int) (h26 : Heap) : Option (((Value × Value × Int × Unit) × Heap) ⊕ ((Value × Value × Unit) × Heap)) :=
  bif (decide (v25 < 80)) then
    ((((fillL [(.int .u8 0)] [(0, 1, (.int .u8 (IntKind.u8.wrap ((IntKind.i64.wrap (v18 + 101))))))]).bind fun cs27 =>
      bnd ((Heap.new h26 (.cells cs27 false 1))) fun h28 =>
      (appendSK h28 1 1 v24 (.slice (some ⟨Heap.next h26, 0, some 0⟩) 1 1)).bind fun p29 =>
      bif (decide (v25 < 16)) then
        ((fillL [(.slice none 0 0)] [(0, 1, p29.1)]).bind fun cs30 =>
        bnd ((Heap.new p29.2 (.cells cs30 false 1))) fun h31 =>
        (appendSK h31 24 1 v23 (.slice (some ⟨Heap.next p29.2, 0, some 0⟩) 1 1)).bind fun p32 =>
        some ((p32.1, (p29.1, ())), p32.2))
      else
        (some ((v23, (p29.1, ())), p29.2))) : Option ((Value × Value × Unit) × Heap)).bind fun a33 =>
    some (.inl ((a33.1.1, (a33.1.2.1, ((IntKind.i64.wrap (v25 + 1)), ()))), a33.2)))
  else
    (some (.inr ((v23, (v24, ())), h26)))
def f_wicketlaw01_Apart_L40 (n : Nat) (u0 : Value) (v17 : Value) (v18 : Int) (h19 : Heap) : Option (((Value × Int × Unit) × Heap) ⊕ ((Value × Unit) × Heap)) :=
  (lenB u0).bind fun n20 =>
  bif (decide (v18 < (n20 : Int))) then
    ((((ixB 1 u0 v18).bind fun q21 =>
      (ldTS .any h19 (some q21)).bind fun x22 =>
      ((loopT (fun a => f_wicketlaw01_Apart_L34 n v18 a.1.1 a.1.2.1 a.1.2.2.1 a.2) n ((v17, (x22, (0, ()))), h19)) : Option ((Value × Value × Unit) × Heap)).bind fun a35 =>
      (fillL [(.slice none 0 0)] [(0, 1, a35.1.2.1)]).bind fun cs36 =>
      bnd ((Heap.new a35.2 (.cells cs36 false 1))) fun h37 =>
      (appendSK h37 24 1 a35.1.1 (.slice (some ⟨Heap.next a35.2, 0, some 0⟩) 1 1)).bind fun p38 =>
      some ((p38.1, ()), p38.2)) : Option ((Value × Unit) × Heap)).bind fun a39 =>
    some (.inl ((a39.1.1, ((IntKind.i64.wrap (v18 + 1)), ())), a39.2)))
  else
    (some (.inr ((v17, ()), h19)))
def f_wicketlaw01_Apart_L56 (n : Nat) (u0 : Value) (v42 : Int) (v47 : Int) (h48 : Heap) : Option (((Int × Unit) × Heap) ⊕ (((Unit) × Heap) ⊕ (((Unit) × Heap) ⊕ (((Int × Unit) × Heap) ⊕ ((Bool × Unit) × Heap))))) :=
  (ixB 1 u0 v42).bind fun q49 =>
  (ldTS .any h48 (some q49)).bind fun x50 =>
  (lenB x50).bind fun n51 =>
  bif (decide (v47 < (n51 : Int))) then
    ((ixB 1 u0 v42).bind fun q52 =>
    (ldTS .any h48 (some q52)).bind fun x53 =>
    (ixB 1 x53 v47).bind fun q54 =>
    (ldTS (.int .u8) h48 (some q54)).bind fun x55 =>
    bif (!decide (x55 = (IntKind.u8.wrap ((IntKind.i64.wrap (v42 + 1)))))) then
      (some (.inr (.inr (.inr (.inr ((false, ()), h48))))))
    else
      (some (.inl (((IntKind.i64.wrap (v47 + 1)), ()), h48))))
  else
    (some (.inr (.inl ((), h48))))
def f_wicketlaw01_Apart_C57 (n : Nat) (u0 : Value) (v42 : Int) (h46 : Heap) : Option (((Unit) × Heap) ⊕ (((Unit) × Heap) ⊕ (((Int × Unit) × Heap) ⊕ ((Bool × Unit) × Heap)))) :=
  loopT (fun a => f_wicketlaw01_Apart_L56 n u0 v42 a.1.1 a.2) n ((0, ()), h46)
def f_wicketlaw01_Apart_L72 (n : Nat) (v42 : Int) (x63 : Value) (v67 : Int) (h68 : Heap) : Option (((Int × Unit) × Heap) ⊕ (((Unit) × Heap) ⊕ (((Int × Unit) × Heap) ⊕ (((Unit) × Heap) ⊕ (((Int × Unit) × Heap) ⊕ ((Bool × Unit) × Heap)))))) :=
  (lenB x63).bind fun n69 =>
  bif (decide (v67 < (n69 : Int))) then
    ((ixB 1 x63 v67).bind fun q70 =>
    (ldTS (.int .u8) h68 (some q70)).bind fun x71 =>
    bif (!decide (x71 = (IntKind.u8.wrap ((IntKind.i64.wrap (v42 + 101)))))) then
      (some (.inr (.inr (.inr (.inr (.inr ((false, ()), h68)))))))
    else
      (some (.inl (((IntKind.i64.wrap (v67 + 1)), ()), h68))))
  else
    (some (.inr (.inl ((), h68))))
def f_wicketlaw01_Apart_C73 (n : Nat) (u0 : Value) (a41 : ((Value × Unit) × Heap)) (v42 : Int) (v59 : Int) (h61 : Heap) : Option (((Unit) × Heap) ⊕ (((Int × Unit) × Heap) ⊕ (((Unit) × Heap) ⊕ (((Int × Unit) × Heap) ⊕ ((Bool × Unit) × Heap))))) :=
  (ixB 1 a41.1.1 (IntKind.i64.wrap ((IntKind.i64.wrap (17 * v42)) + v59))).bind fun q62 =>
  (ldTS .any h61 (some q62)).bind fun x63 =>
  (ixB 1 u0 v42).bind fun q64 =>
  (ldTS .any h61 (some q64)).bind fun x65 =>
  (lenB x65).bind fun n66 =>
  loopT (fun a => f_wicketlaw01_Apart_L72 n v42 x63 a.1.1 a.2) n (((n66 : Int), ()), h61)
def f_wicketlaw01_Apart_L75 (n : Nat) (u0 : Value) (a41 : ((Value × Unit) × Heap)) (v42 : Int) (v59 : Int) (h60 : Heap) : Option (((Int × Unit) × Heap) ⊕ (((Unit) × Heap) ⊕ (((Int × Unit) × Heap) ⊕ ((Bool × Unit) × Heap)))) :=
  bif (decide (v59 < 17)) then
    (thenB (f_wicketlaw01_Apart_C73 n u0 a41 v42 v59 (h60)) fun a74 =>
    some (.inl (((IntKind.i64.wrap (v59 + 1)), ()), a74.2)))
  else
    (some (.inr (.inl ((), h60))))
def f_wicketlaw01_Apart_C76 (n : Nat) (u0 : Value) (a41 : ((Value × Unit) × Heap)) (v42 : Int) (h45 : Heap) : Option (((Unit) × Heap) ⊕ (((Int × Unit) × Heap) ⊕ ((Bool × Unit) × Heap))) :=
  thenB (f_wicketlaw01_Apart_C57 n u0 v42 (h45)) fun a58 =>
  loopT (fun a => f_wicketlaw01_Apart_L75 n u0 a41 v42 a.1.1 a.2) n ((0, ()), a58.2)
def f_wicketlaw01_Apart_L78 (n : Nat) (u0 : Value) (a41 : ((Value × Unit) × Heap)) (v42 : Int) (h43 : Heap) : Option (((Int × Unit) × Heap) ⊕ ((Bool × Unit) × Heap)) :=
  (lenB u0).bind fun n44 =>
  bif (decide (v42 < (n44 : Int))) then
    (thenB (f_wicketlaw01_Apart_C76 n u0 a41 v42 (h43)) fun a77 =>
    some (.inl (((IntKind.i64.wrap (v42 + 1)), ()), a77.2)))
  else
    (some (.inr ((true, ()), h43)))
noncomputable def sf_wicketlaw01_Apart (n : Nat) : Sf := sfOf []
noncomputable def it_wicketlaw01_Apart (n : Nat) : It := itOf []
def f_wicketlaw01_Apart (n : Nat) (u0 : Value) (h : Heap) : Option ((Bool × Unit) × Heap) :=
  bnd ((clrH h)) fun h0 =>
  ((loopT (fun a => f_wicketlaw01_Apart_L15 n u0 a.1.1 a.2) n ((0, ()), h0)) : Option ((Unit) × Heap)).bind fun a16 =>
  ((loopT (fun a => f_wicketlaw01_Apart_L40 n u0 a.1.1 a.1.2.1 a.2) n (((.slice none 0 0), (0, ())), a16.2)) : Option ((Value × Unit) × Heap)).bind fun a41 =>
  loopT (fun a => f_wicketlaw01_Apart_L78 n u0 a41 a.1.1 a.2) n ((0, ()), a41.2)
def rs_wicketlaw01_Apart : Rs := [(.tmp 2, .bool)]
def ps_wicketlaw01_Apart : List Ty := [.any]
theorem e_wicketlaw01_Apart (n : Nat) (u0 : Value) (h : Heap) : f_wicketlaw01_Apart n u0 h = fB (sf_wicketlaw01_Apart n) (it_wicketlaw01_Apart n) n c2_wicketlaw01_Apart rs_wicketlaw01_Apart ps_wicketlaw01_Apart (u0, ()) h := by kernel_rfl
noncomputable def s_wicketlaw01_Apart (n : Nat) : Sf1 := mkSf ps_wicketlaw01_Apart rs_wicketlaw01_Apart fun a h => f_wicketlaw01_Apart n a.1 h

/- wicket/wicketlaw08.small -/
def c2_wicketlaw08_small : C2 :=
  .seq (.reg [(⟨(some 0), .alloc (List.replicate 5 (.int .i64 0)), none⟩, .ptr)]) <|
  .seq (.reg [(⟨(some 1), .build (List.replicate 5 (.int .i64 0)) [(0, 1, (.const (.int .i64 2))), (1, 1, (.const (.int .i64 3))), (2, 1, (.const (.int .i64 1))), (3, 1, (.const (.int .i64 1))), (4, 1, (.const (.int .i64 1)))], none⟩, .any),
      (⟨none, .store 5 (.tmp 0) (.tmp 1), none⟩, .any)]) <|
  .ret
noncomputable def sf_wicketlaw08_small (n : Nat) : Sf := sfOf []
noncomputable def it_wicketlaw08_small (n : Nat) : It := itOf []
def f_wicketlaw08_small (n : Nat)  (h : Heap) : Option ((Value × Unit) × Heap) :=
  bnd ((Heap.new h (.cells (List.replicate 5 (.int .i64 0)) false 0))) fun h0 =>
  (fillL (List.replicate 5 (.int .i64 0)) [(0, 1, (.int .i64 2)), (1, 1, (.int .i64 3)), (2, 1, (.int .i64 1)), (3, 1, (.int .i64 1)), (4, 1, (.int .i64 1))]).bind fun cs1 =>
  (stB 5 (.agg ⟨cs1⟩) h0 (some (nwA h))).bind fun h2 =>
  (ldA 5 h2 (some (nwA h))).bind fun cs3 =>
  some (((.agg ⟨cs3⟩), ()), h2)
def rs_wicketlaw08_small : Rs := [(.cell true 5 0, .any)]
def ps_wicketlaw08_small : List Ty := []
theorem e_wicketlaw08_small (n : Nat)  (h : Heap) : f_wicketlaw08_small n h = fB (sf_wicketlaw08_small n) (it_wicketlaw08_small n) n c2_wicketlaw08_small rs_wicketlaw08_small ps_wicketlaw08_small () h := by kernel_rfl
noncomputable def s_wicketlaw08_small (n : Nat) : Sf1 := mkSf ps_wicketlaw08_small rs_wicketlaw08_small fun a h => f_wicketlaw08_small n h

/- (*wicket/sector.Disk).Len -/
def c2_sector_Disk_Len : C2 :=
  .seq (.reg [(⟨(some 2), .move (.const (.int .i64 0)), none⟩, (.int .i64))]) <|
  .seq (.seq (.reg [(⟨(some 3), .move (.tmp 0), none⟩, .ptr),
        (⟨(some 4), .eqv false .ptr (.tmp 3) (.const (.pointer none)), none⟩, .bool)]) <|
    .cond (.tmp 4)
      (.seq (.reg [(⟨(some 2), .move (.const (.int .i64 0)), none⟩, (.int .i64))]) <|
      .ret)
      (.skip)) <|
  .seq (.reg [(⟨(some 5), .move (.tmp 0), none⟩, .ptr),
      (⟨(some 6), .nilCheck (.tmp 5), none⟩, .ptr),
      (⟨(some 7), .fieldAddr 0 (.tmp 6), none⟩, .ptr),
      (⟨(some 8), .load false 1 (.tmp 7), none⟩, .any),
      (⟨(some 9), .lenS (.tmp 8), none⟩, (.int .i64)),
      (⟨(some 2), .move (.tmp 9), none⟩, (.int .i64))]) <|
  .ret
noncomputable def sf_sector_Disk_Len (n : Nat) : Sf := sfOf []
noncomputable def it_sector_Disk_Len (n : Nat) : It := itOf []
def f_sector_Disk_Len (n : Nat) (u0 : Option Addr) (h : Heap) : Option ((Int × Unit) × Heap) :=
  bif (Option.isNone u0) then
    (some ((0, ()), h))
  else
    ((u0).bind fun q0 =>
    (ldT .any h (some (fa q0 0))).bind fun x1 =>
    (lenB x1).bind fun n2 =>
    some (((n2 : Int), ()), h))
def rs_sector_Disk_Len : Rs := [(.tmp 2, (.int .i64))]
def ps_sector_Disk_Len : List Ty := [.ptr]
theorem e_sector_Disk_Len (n : Nat) (u0 : Option Addr) (h : Heap) : f_sector_Disk_Len n u0 h = fB (sf_sector_Disk_Len n) (it_sector_Disk_Len n) n c2_sector_Disk_Len rs_sector_Disk_Len ps_sector_Disk_Len (u0, ()) h := by kernel_rfl
noncomputable def s_sector_Disk_Len (n : Nat) : Sf1 := mkSf ps_sector_Disk_Len rs_sector_Disk_Len fun a h => f_sector_Disk_Len n a.1 h

/- wicket/home.block -/
def c2_home_block : C2 :=
  .seq (.reg [(⟨(some 2), .move (.const (.bool false)), none⟩, .bool)]) <|
  .seq (.reg [(⟨(some 3), .move (.tmp 0), none⟩, (.int .i64)),
      (⟨(some 4), .bin .geq (.tmp 3) (.const (.int .i64 0)), none⟩, .bool),
      (⟨(some 5), .move (.tmp 4), none⟩, .bool),
      (⟨(some 6), .move (.tmp 0), some (5, true)⟩, (.int .i64)),
      (⟨(some 7), .bin .lss (.tmp 6) (.const (.int .i64 64)), some (5, true)⟩, .bool),
      (⟨(some 8), .pick (.tmp 5) (.tmp 7) (.const (.bool false)), none⟩, .bool),
      (⟨(some 2), .move (.tmp 8), none⟩, .bool)]) <|
  .ret
noncomputable def sf_home_block (n : Nat) : Sf := sfOf []
noncomputable def it_home_block (n : Nat) : It := itOf []
def f_home_block (n : Nat) (u0 : Int) (h : Heap) : Option ((Bool × Unit) × Heap) :=
  bif (decide (0 ≤ u0)) then
    (some (((decide (u0 < 64)), ()), h))
  else
    (some ((false, ()), h))
def rs_home_block : Rs := [(.tmp 2, .bool)]
def ps_home_block : List Ty := [(.int .i64)]
theorem e_home_block (n : Nat) (u0 : Int) (h : Heap) : f_home_block n u0 h = fB (sf_home_block n) (it_home_block n) n c2_home_block rs_home_block ps_home_block (u0, ()) h := by kernel_rfl
noncomputable def s_home_block (n : Nat) : Sf1 := mkSf ps_home_block rs_home_block fun a h => f_home_block n a.1 h

/- wicket/octet.Join -/
def c2_octet_Join : C2 :=
  .seq (.reg [(⟨(some 2), .move (.const (.slice none 0 0)), none⟩, .any)]) <|
  .seq (.reg [(⟨(some 3), .move (.const (.slice none 0 0)), none⟩, .any)]) <|
  .seq (.seq (.reg [(⟨(some 6), .move (.tmp 0), none⟩, .any),
        (⟨(some 7), .lenS (.tmp 6), none⟩, (.int .i64)),
        (⟨(some 8), .move (.const (.int .i64 0)), none⟩, (.int .i64))]) <|
    .block 0 <|
      .loop [(3, .any), (8, (.int .i64))] <|
        .seq (.reg [(⟨(some 9), .bin .lss (.tmp 8) (.tmp 7), none⟩, .any)]) <|
        .seq (.cond (.tmp 9)
            (.skip)
            (.exit 0)) <|
        .seq (.block 1 <|
            .seq (.reg [(⟨(some 10), .idxSlice 1 (.tmp 6) (.tmp 8), none⟩, .ptr),
                (⟨(some 11), .load false 1 (.tmp 10), none⟩, .any),
                (⟨(some 5), .move (.tmp 11), none⟩, .any)]) <|
            .reg [(⟨(some 12), .move (.tmp 3), none⟩, .any),
              (⟨(some 13), .move (.tmp 5), none⟩, .any),
              (⟨(some 14), .append 1 1 (.tmp 12) (.tmp 13), none⟩, .any),
              (⟨(some 3), .move (.tmp 14), none⟩, .any)]) <|
        .reg [(⟨(some 15), .bin .add (.tmp 8) (.const (.int .i64 1)), none⟩, (.int .i64)),
          (⟨(some 8), .move (.tmp 15), none⟩, (.int .i64))]) <|
  .seq (.reg [(⟨(some 16), .move (.tmp 3), none⟩, .any),
      (⟨(some 2), .move (.tmp 16), none⟩, .any)]) <|
  .ret
def f_octet_Join_L7 (n : Nat) (u0 : Value) (n0 : Nat) (v1 : Value) (v2 : Int) (h3 : Heap) : Option (((Value × Int × Unit) × Heap) ⊕ ((Value × Unit) × Heap)) :=
  bif (decide (v2 < (n0 : Int))) then
    ((ixB 1 u0 v2).bind fun q4 =>
    (ldT .any h3 (some q4)).bind fun x5 =>
    (appendK h3 1 1 v1 x5).bind fun p6 =>
    some (.inl ((p6.1, ((IntKind.i64.wrap (v2 + 1)), ())), p6.2)))
  else
    (Option.map Sum.inr (bif !isTuple v1 then
      (some ((v1, ()), h3))
    else
      (none)))
noncomputable def sf_octet_Join (n : Nat) : Sf := sfOf []
noncomputable def it_octet_Join (n : Nat) : It := itOf []
def f_octet_Join (n : Nat) (u0 : Value) (h : Heap) : Option ((Value × Unit) × Heap) :=
  (lenB u0).bind fun n0 =>
  loopT (fun a => f_octet_Join_L7 n u0 n0 a.1.1 a.1.2.1 a.2) n (((.slice none 0 0), (0, ())), h)
def rs_octet_Join : Rs := [(.tmp 2, .any)]
def ps_octet_Join : List Ty := [.any]
theorem e_octet_Join (n : Nat) (u0 : Value) (h : Heap) : f_octet_Join n u0 h = fB (sf_octet_Join n) (it_octet_Join n) n c2_octet_Join rs_octet_Join ps_octet_Join (u0, ()) h := by kernel_rfl
noncomputable def s_octet_Join (n : Nat) : Sf1 := mkSf ps_octet_Join rs_octet_Join fun a h => f_octet_Join n a.1 h

/- wicket/sector.Load -/
def c2_sector_Load : C2 :=
  .seq (.reg [(⟨(some 2), .move (.const (.pointer none)), none⟩, .ptr),
      (⟨(some 3), .move (.const (.int .i64 0)), none⟩, (.int .i64))]) <|
  .seq (.reg [(⟨(some 7), .move (.tmp 0), none⟩, .any),
      (⟨(some 8), .lenS (.tmp 7), none⟩, (.int .i64)),
      (⟨(some 9), .bin .quo (.tmp 8) (.const (.int .i64 64)), none⟩, (.int .i64)),
      (⟨(some 4), .move (.tmp 9), none⟩, (.int .i64))]) <|
  .seq (.seq (.cutn [(21, .bool)] <|
        .reg [(⟨(some 10), .move (.tmp 4), none⟩, (.int .i64)),
          (⟨(some 11), .bin .lss (.tmp 10) (.const (.int .i64 1)), none⟩, .bool),
          (⟨(some 12), .move (.tmp 11), none⟩, .bool),
          (⟨(some 13), .move (.tmp 4), some (12, false)⟩, (.int .i64)),
          (⟨(some 14), .bin .gtr (.tmp 13) (.const (.int .i64 4096)), some (12, false)⟩, .bool),
          (⟨(some 15), .pick (.tmp 12) (.const (.bool true)) (.tmp 14), none⟩, .bool),
          (⟨(some 16), .move (.tmp 15), none⟩, .bool),
          (⟨(some 17), .move (.tmp 0), some (16, false)⟩, .any),
          (⟨(some 18), .lenS (.tmp 17), some (16, false)⟩, (.int .i64)),
          (⟨(some 19), .bin .rem (.tmp 18) (.const (.int .i64 64)), some (16, false)⟩, (.int .i64)),
          (⟨(some 20), .bin .neq (.tmp 19) (.const (.int .i64 0)), some (16, false)⟩, .bool),
          (⟨(some 21), .pick (.tmp 16) (.const (.bool true)) (.tmp 20), none⟩, .bool)]) <|
    .cond (.tmp 21)
      (.seq (.reg [(⟨(some 2), .move (.const (.pointer none)), none⟩, .ptr),
          (⟨(some 3), .move (.const (.int .i64 2)), none⟩, (.int .i64))]) <|
      .ret)
      (.skip)) <|
  .seq (.reg [(⟨(some 22), .move (.tmp 4), none⟩, (.int .i64)),
      (⟨(some 23), .makeSlice 64 64 (List.replicate 64 (.int .u8 0)) (.tmp 22) (.tmp 22), none⟩, .any),
      (⟨(some 24), .build [(.slice none 0 0), (.slice none 0 0)] [(0, 1, (.tmp 23))], none⟩, .any),
      (⟨(some 25), .box (.tmp 24), none⟩, .ptr),
      (⟨(some 5), .move (.tmp 25), none⟩, .ptr)]) <|
  .seq (.cutn [] <|
      .seq (.reg [(⟨(some 26), .move (.tmp 5), none⟩, .ptr),
          (⟨(some 27), .nilCheck (.tmp 26), none⟩, .ptr),
          (⟨(some 28), .fieldAddr 0 (.tmp 27), none⟩, .ptr),
          (⟨(some 29), .load false 1 (.tmp 28), none⟩, .any),
          (⟨(some 30), .lenS (.tmp 29), none⟩, (.int .i64)),
          (⟨(some 31), .move (.const (.int .i64 0)), none⟩, (.int .i64))]) <|
      .block 0 <|
        .loop [(31, (.int .i64))] <|
          .seq (.reg [(⟨(some 32), .bin .lss (.tmp 31) (.tmp 30), none⟩, .any)]) <|
          .seq (.cond (.tmp 32)
              (.skip)
              (.exit 0)) <|
          .seq (.block 1 <|
              .seq (.reg [(⟨(some 33), .move (.tmp 31), none⟩, (.int .i64)),
                  (⟨(some 6), .move (.tmp 33), none⟩, (.int .i64))]) <|
              .regd [(⟨0, [], false, ⟨(some 34), .move (.tmp 5), none⟩⟩, .ptr),
                (⟨1, [0], false, ⟨(some 35), .nilCheck (.tmp 34), none⟩⟩, .ptr),
                (⟨2, [1, 0], false, ⟨(some 36), .fieldAddr 0 (.tmp 35), none⟩⟩, .ptr),
                (⟨3, [2, 1, 0], false, ⟨(some 37), .load false 1 (.tmp 36), none⟩⟩, .any),
                (⟨4, [], false, ⟨(some 38), .move (.tmp 6), none⟩⟩, (.int .i64)),
                (⟨5, [], false, ⟨(some 39), .move (.tmp 0), none⟩⟩, .any),
                (⟨6, [], false, ⟨(some 40), .move (.tmp 6), none⟩⟩, (.int .i64)),
                (⟨7, [6], false, ⟨(some 41), .bin .mul (.tmp 40) (.const (.int .i64 64)), none⟩⟩, (.int .i64)),
                (⟨8, [], false, ⟨(some 42), .move (.tmp 6), none⟩⟩, (.int .i64)),
                (⟨9, [8], false, ⟨(some 43), .bin .add (.tmp 42) (.const (.int .i64 1)), none⟩⟩, (.int .i64)),
                (⟨10, [9, 8], false, ⟨(some 44), .bin .mul (.tmp 43) (.const (.int .i64 64)), none⟩⟩, (.int .i64)),
                (⟨11, [5, 7, 10, 6, 9, 8], false, ⟨(some 45), .slice 1 (.tmp 39) (some (.tmp 41)) (some (.tmp 44)) none, none⟩⟩, .any),
                (⟨12, [11, 5, 7, 10, 6, 9, 8], false, ⟨(some 46), .arrAt 64 (.tmp 45), none⟩⟩, .ptr),
                (⟨13, [12, 11, 5, 7, 10, 6, 9, 8], false, ⟨(some 47), .load true 64 (.tmp 46), none⟩⟩, .any),
                (⟨14, [3, 4, 0, 1, 2, 5, 6, 7, 8, 9, 10, 11, 12, 13], false, ⟨(some 48), .idxSlice 64 (.tmp 37) (.tmp 38), none⟩⟩, .ptr),
                (⟨15, [14, 13, 0, 1, 2, 3, 4, 5, 6, 7, 8, 9, 10, 11, 12], true, ⟨none, .store 64 (.tmp 48) (.tmp 47), none⟩⟩, .any)]) <|
          .reg [(⟨(some 49), .bin .add (.tmp 31) (.const (.int .i64 1)), none⟩, (.int .i64)),
            (⟨(some 31), .move (.tmp 49), none⟩, (.int .i64))]) <|
  .seq (.reg [(⟨(some 50), .move (.tmp 5), none⟩, .ptr),
      (⟨(some 2), .move (.tmp 50), none⟩, .ptr),
      (⟨(some 3), .move (.const (.int .i64 0)), none⟩, (.int .i64))]) <|
  .ret
def f_sector_Load_L17 (n : Nat) (u0 : Value) (h4 : Heap) (n8 : Nat) (v9 : Int) (h10 : Heap) : Option (((Int × Unit) × Heap) ⊕ ((Unit) × Heap)) :=
  bif (decide (v9 < (n8 : Int))) then
    ((ldT .any h10 (some (fa (nwA h4) 0))).bind fun x11 =>
    (sliceK h10 1 (some (.int .i64 (IntKind.i64.wrap (v9 * 64)))) (some (.int .i64 (IntKind.i64.wrap ((IntKind.i64.wrap (v9 + 1)) * 64)))) none u0).bind fun p12 =>
    (arrB h10 64 p12.1).bind fun q13 =>
    (ldA 64 h10 q13).bind fun cs14 =>
    (ixB 64 x11 v9).bind fun q15 =>
    (stB 64 (.agg ⟨cs14⟩) h10 (some q15)).bind fun h16 =>
    some (.inl (((IntKind.i64.wrap (v9 + 1)), ()), h16)))
  else
    (some (.inr ((), h10)))
noncomputable def sf_sector_Load (n : Nat) : Sf := sfOf []
noncomputable def it_sector_Load (n : Nat) : It := itOf []
def f_sector_Load (n : Nat) (u0 : Value) (h : Heap) : Option ((Option Addr × Int × Unit) × Heap) :=
  (lenB u0).bind fun n0 =>
  ((bif (decide ((IntKind.i64.wrap (Int.tdiv (n0 : Int) 64)) < 1)) then
      (some ((true, ()), h))
    else
      (bif (decide (4096 < (IntKind.i64.wrap (Int.tdiv (n0 : Int) 64)))) then
        (some ((true, ()), h))
      else
        ((lenB u0).bind fun n1 =>
        some (((!decide ((Int.tmod (n1 : Int) 64) = 0)), ()), h)))) : Option ((Bool × Unit) × Heap)).bind fun a2 =>
  bif a2.1.1 then
    (some ((none, (2, ())), a2.2))
  else
    ((mkSl (Heap.next a2.2) 64 64 (List.replicate 64 (.int .u8 0)) (.int .i64 (IntKind.i64.wrap (Int.tdiv (n0 : Int) 64))) (.int .i64 (IntKind.i64.wrap (Int.tdiv (n0 : Int) 64)))).bind fun p3 =>
    bnd ((Heap.new a2.2 (p3.2))) fun h4 =>
    (fillL [(.slice none 0 0), (.slice none 0 0)] [(0, 1, p3.1)]).bind fun cs5 =>
    bif (cs5 : List Value).all isCell then
      (bnd ((Heap.new h4 (.cells cs5 false 0))) fun h6 =>
      (((ldT .any h6 (some (fa (nwA h4) 0))).bind fun x7 =>
        (lenB x7).bind fun n8 =>
        loopT (fun a => f_sector_Load_L17 n u0 h4 n8 a.1.1 a.2) n ((0, ()), h6)) : Option ((Unit) × Heap)).bind fun a18 =>
      some (((some (nwA h4)), (0, ())), a18.2))
    else
      (none))
def rs_sector_Load : Rs := [(.tmp 2, .ptr), (.tmp 3, (.int .i64))]
def ps_sector_Load : List Ty := [.any]
theorem e_sector_Load (n : Nat) (u0 : Value) (h : Heap) : f_sector_Load n u0 h = fB (sf_sector_Load n) (it_sector_Load n) n c2_sector_Load rs_sector_Load ps_sector_Load (u0, ()) h := by kernel_rfl
noncomputable def s_sector_Load (n : Nat) : Sf1 := mkSf ps_sector_Load rs_sector_Load fun a h => f_sector_Load n a.1 h

/- wicket/wicketref08.number -/
def c2_wicketref08_number : C2 :=
  .seq (.reg [(⟨(some 4), .move (.const (.slice none 0 0)), none⟩, .any)]) <|
  .seq (.reg [(⟨(some 5), .move (.const (.slice none 0 0)), none⟩, .any)]) <|
  .seq (.seq (.reg [(⟨(some 6), .move (.const (.int .i64 0)), none⟩, (.int .i64))]) <|
    .block 0 <|
      .loop [(0, (.int .u64)), (5, .any), (6, (.int .i64))] <|
        .seq (.seq (.reg [(⟨(some 7), .move (.tmp 6), none⟩, (.int .i64)),
              (⟨(some 8), .move (.tmp 1), none⟩, (.int .i64)),
              (⟨(some 9), .bin .lss (.tmp 7) (.tmp 8), none⟩, .bool)]) <|
          .cond (.tmp 9)
            (.skip)
            (.exit 0)) <|
        .seq (.block 1 <|
            .seq (.reg [(⟨(some 12), .move (.tmp 5), none⟩, .any),
                (⟨(some 13), .move (.tmp 0), none⟩, (.int .u64)),
                (⟨(some 14), .bin .rem (.tmp 13) (.const (.int .u64 256)), none⟩, (.int .u64)),
                (⟨(some 15), .conv .u8 (.tmp 14), none⟩, (.int .u8)),
                (⟨(some 16), .buildSlice 1 1 [(.int .u8 0)] [(0, 1, (.tmp 15))], none⟩, .any),
                (⟨(some 17), .append 1 1 (.tmp 12) (.tmp 16), none⟩, .any),
                (⟨(some 5), .move (.tmp 17), none⟩, .any)]) <|
            .reg [(⟨(some 18), .move (.tmp 0), none⟩, (.int .u64)),
              (⟨(some 19), .bin .quo (.tmp 18) (.const (.int .u64 256)), none⟩, (.int .u64)),
              (⟨(some 0), .move (.tmp 19), none⟩, (.int .u64))]) <|
        .reg [(⟨(some 10), .move (.tmp 6), none⟩, (.int .i64)),
          (⟨(some 11), .bin .add (.tmp 10) (.const (.int .i64 1)), none⟩, (.int .i64)),
          (⟨(some 6), .move (.tmp 11), none⟩, (.int .i64))]) <|
  .seq (.reg [(⟨(some 20), .move (.tmp 5), none⟩, .any),
      (⟨(some 4), .move (.tmp 20), none⟩, .any)]) <|
  .ret
def f_wicketref08_number_L7 (n : Nat) (u1 : Int) (v0 : Int) (v1 : Value) (v2 : Int) (h3 : Heap) : Option (((Int × Value × Int × Unit) × Heap) ⊕ ((Value × Unit) × Heap)) :=
  bif (decide (v2 < u1)) then
    ((fillL [(.int .u8 0)] [(0, 1, (.int .u8 (IntKind.u8.wrap ((Int.tmod v0 256)))))]).bind fun cs4 =>
    bnd ((Heap.new h3 (.cells cs4 false 1))) fun h5 =>
    (appendK h5 1 1 v1 (.slice (some ⟨Heap.next h3, 0, some 0⟩) 1 1)).bind fun p6 =>
    some (.inl (((IntKind.u64.wrap (Int.tdiv v0 256)), (p6.1, ((IntKind.i64.wrap (v2 + 1)), ()))), p6.2)))
  else
    (Option.map Sum.inr (bif !isTuple v1 then
      (some ((v1, ()), h3))
    else
      (none)))
noncomputable def sf_wicketref08_number (n : Nat) : Sf := sfOf []
noncomputable def it_wicketref08_number (n : Nat) : It := itOf []
def f_wicketref08_number (n : Nat) (u0 : Int) (u1 : Int) (h : Heap) : Option ((Value × Unit) × Heap) :=
  loopT (fun a => f_wicketref08_number_L7 n u1 a.1.1 a.1.2.1 a.1.2.2.1 a.2) n ((u0, ((.slice none 0 0), (0, ()))), h)
def rs_wicketref08_number : Rs := [(.tmp 4, .any)]
def ps_wicketref08_number : List Ty := [(.int .u64), (.int .i64)]
theorem e_wicketref08_number (n : Nat) (u0 : Int) (u1 : Int) (h : Heap) : f_wicketref08_number n u0 u1 h = fB (sf_wicketref08_number n) (it_wicketref08_number n) n c2_wicketref08_number rs_wicketref08_number ps_wicketref08_number (u0, (u1, ())) h := by kernel_rfl
noncomputable def s_wicketref08_number (n : Nat) : Sf1 := mkSf ps_wicketref08_number rs_wicketref08_number fun a h => f_wicketref08_number n a.1 a.2.1 h

/- wicket/octet.may -/
def c2_octet_may : C2 :=
  .seq (.reg [(⟨(some 2), .move (.const (.bool false)), none⟩, .bool)]) <|
  .seq (.reg [(⟨(some 3), .move (.tmp 0), none⟩, (.int .i64)),
      (⟨(some 4), .bin .geq (.tmp 3) (.const (.int .i64 1)), none⟩, .bool),
      (⟨(some 5), .move (.tmp 4), none⟩, .bool),
      (⟨(some 6), .move (.tmp 0), some (5, true)⟩, (.int .i64)),
      (⟨(some 7), .bin .leq (.tmp 6) (.const (.int .i64 8)), some (5, true)⟩, .bool),
      (⟨(some 8), .pick (.tmp 5) (.tmp 7) (.const (.bool false)), none⟩, .bool),
      (⟨(some 2), .move (.tmp 8), none⟩, .bool)]) <|
  .ret
noncomputable def sf_octet_may (n : Nat) : Sf := sfOf []
noncomputable def it_octet_may (n : Nat) : It := itOf []
def f_octet_may (n : Nat) (u0 : Int) (h : Heap) : Option ((Bool × Unit) × Heap) :=
  bif (decide (1 ≤ u0)) then
    (some (((decide (u0 ≤ 8)), ()), h))
  else
    (some ((false, ()), h))
def rs_octet_may : Rs := [(.tmp 2, .bool)]
def ps_octet_may : List Ty := [(.int .i64)]
theorem e_octet_may (n : Nat) (u0 : Int) (h : Heap) : f_octet_may n u0 h = fB (sf_octet_may n) (it_octet_may n) n c2_octet_may rs_octet_may ps_octet_may (u0, ()) h := by kernel_rfl
noncomputable def s_octet_may (n : Nat) : Sf1 := mkSf ps_octet_may rs_octet_may fun a h => f_octet_may n a.1 h

/- wicket/sum.push -/
def c2_sum_push : C2 :=
  .seq (.reg [(⟨(some 4), .move (.const (.int .u32 0)), none⟩, (.int .u32))]) <|
  .seq (.reg [(⟨(some 5), .move (.tmp 0), none⟩, (.int .u32)),
      (⟨(some 6), .move (.tmp 1), none⟩, (.int .u8)),
      (⟨(some 7), .conv .u32 (.tmp 6), none⟩, (.int .u32)),
      (⟨(some 8), .bin .xor (.tmp 5) (.tmp 7), none⟩, (.int .u32)),
      (⟨(some 0), .move (.tmp 8), none⟩, (.int .u32))]) <|
  .seq (.reg [(⟨(some 9), .move (.tmp 0), none⟩, (.int .u32)),
      (⟨(some 10), .bin .and (.tmp 9) (.const (.int .u32 15)), none⟩, (.int .u32)),
      (⟨(some 11), .idxArr 16 1 (.global 1) (.tmp 10), none⟩, .ptr),
      (⟨(some 12), .load false 1 (.tmp 11), none⟩, (.int .u32)),
      (⟨(some 13), .move (.tmp 0), none⟩, (.int .u32)),
      (⟨(some 14), .bin .shr (.tmp 13) (.const (.int .u64 4)), none⟩, (.int .u32)),
      (⟨(some 15), .bin .xor (.tmp 12) (.tmp 14), none⟩, (.int .u32)),
      (⟨(some 0), .move (.tmp 15), none⟩, (.int .u32))]) <|
  .seq (.reg [(⟨(some 16), .move (.tmp 0), none⟩, (.int .u32)),
      (⟨(some 17), .bin .and (.tmp 16) (.const (.int .u32 15)), none⟩, (.int .u32)),
      (⟨(some 18), .idxArr 16 1 (.global 1) (.tmp 17), none⟩, .ptr),
      (⟨(some 19), .load false 1 (.tmp 18), none⟩, (.int .u32)),
      (⟨(some 20), .move (.tmp 0), none⟩, (.int .u32)),
      (⟨(some 21), .bin .shr (.tmp 20) (.const (.int .u64 4)), none⟩, (.int .u32)),
      (⟨(some 22), .bin .xor (.tmp 19) (.tmp 21), none⟩, (.int .u32)),
      (⟨(some 4), .move (.tmp 22), none⟩, (.int .u32))]) <|
  .ret
noncomputable def sf_sum_push (n : Nat) : Sf := sfOf []
noncomputable def it_sum_push (n : Nat) : It := itOf []
def f_sum_push (n : Nat) (u0 : Int) (u1 : Int) (h : Heap) : Option ((Int × Unit) × Heap) :=
  (bitB .xor .u32 u0 .u32 (IntKind.u32.wrap (u1))).bind fun x0 =>
  (bitB .and .u32 x0 .u32 15).bind fun x1 =>
  (ixA 16 1 (some ⟨1, 0, none⟩) x1).bind fun q2 =>
  (ldT (.int .u32) h (some q2)).bind fun x3 =>
  (bitB .shr .u32 x0 .u64 4).bind fun x4 =>
  (bitB .xor .u32 x3 .u32 x4).bind fun x5 =>
  (bitB .and .u32 x5 .u32 15).bind fun x6 =>
  (ixA 16 1 (some ⟨1, 0, none⟩) x6).bind fun q7 =>
  (ldT (.int .u32) h (some q7)).bind fun x8 =>
  (bitB .shr .u32 x5 .u64 4).bind fun x9 =>
  (bitB .xor .u32 x8 .u32 x9).bind fun x10 =>
  some ((x10, ()), h)
def rs_sum_push : Rs := [(.tmp 4, (.int .u32))]
def ps_sum_push : List Ty := [(.int .u32), (.int .u8)]
theorem e_sum_push (n : Nat) (u0 : Int) (u1 : Int) (h : Heap) : f_sum_push n u0 u1 h = fB (sf_sum_push n) (it_sum_push n) n c2_sum_push rs_sum_push ps_sum_push (u0, (u1, ())) h := by kernel_rfl
noncomputable def s_sum_push (n : Nat) : Sf1 := mkSf ps_sum_push rs_sum_push fun a h => f_sum_push n a.1 a.2.1 h

/- wicket/octet.Pad -/
def c2_octet_Pad : C2 :=
  .seq (.reg [(⟨(some 4), .move (.const (.slice none 0 0)), none⟩, .any),
      (⟨(some 5), .move (.const (.int .i64 0)), none⟩, (.int .i64))]) <|
  .seq (.block 0 <|
      .seq (.cutn [(6, .bool)] <|
          .reg [(⟨(some 7), .move (.tmp 1), none⟩, (.int .i64)),
            (⟨(some 8), .bin .lss (.tmp 7) (.const (.int .i64 0)), none⟩, .bool),
            (⟨(some 9), .move (.tmp 8), none⟩, .bool),
            (⟨(some 10), .move (.tmp 1), some (9, false)⟩, (.int .i64)),
            (⟨(some 11), .bin .gtr (.tmp 10) (.const (.int .i64 64)), some (9, false)⟩, .bool),
            (⟨(some 12), .pick (.tmp 9) (.const (.bool true)) (.tmp 11), none⟩, .bool),
            (⟨(some 6), .move (.tmp 12), none⟩, .bool)]) <|
      .cond (.tmp 6)
        (.seq (.reg [(⟨(some 4), .move (.const (.slice none 0 0)), none⟩, .any),
            (⟨(some 5), .move (.const (.int .i64 2)), none⟩, (.int .i64))]) <|
        .ret)
        (.seq (.reg [(⟨(some 14), .move (.tmp 0), none⟩, .any),
            (⟨(some 15), .lenS (.tmp 14), none⟩, (.int .i64)),
            (⟨(some 16), .move (.tmp 1), none⟩, (.int .i64)),
            (⟨(some 17), .bin .gtr (.tmp 15) (.tmp 16), none⟩, .bool),
            (⟨(some 13), .move (.tmp 17), none⟩, .bool)]) <|
        .cond (.tmp 13)
          (.seq (.reg [(⟨(some 4), .move (.const (.slice none 0 0)), none⟩, .any),
              (⟨(some 5), .move (.const (.int .i64 10)), none⟩, (.int .i64))]) <|
          .ret)
          (.skip))) <|
  .seq (.reg [(⟨(some 18), .move (.tmp 0), none⟩, .any),
      (⟨(some 19), .move (.tmp 1), none⟩, (.int .i64)),
      (⟨(some 20), .move (.tmp 0), none⟩, .any),
      (⟨(some 21), .lenS (.tmp 20), none⟩, (.int .i64)),
      (⟨(some 22), .bin .sub (.tmp 19) (.tmp 21), none⟩, (.int .i64)),
      (⟨(some 23), .makeSlice 1 1 [(.int .u8 0)] (.tmp 22) (.tmp 22), none⟩, .any),
      (⟨(some 24), .buildSlice 2 1 [(.slice none 0 0), (.slice none 0 0)] [(0, 1, (.tmp 18)), (1, 1, (.tmp 23))], none⟩, .any),
      (⟨(some 25), .call k_octet_Join [(.tmp 24)], none⟩, .any),
      (⟨(some 4), .move (.tmp 25), none⟩, .any),
      (⟨(some 5), .move (.const (.int .i64 0)), none⟩, (.int .i64))]) <|
  .ret
noncomputable def sf_octet_Pad (n : Nat) : Sf := sfOf [(k_octet_Join, s_octet_Join n)]
noncomputable def it_octet_Pad (n : Nat) : It := itOf []
def f_octet_Pad (n : Nat) (u0 : Value) (u1 : Int) (h : Heap) : Option ((Value × Int × Unit) × Heap) :=
  ((bif (decide (u1 < 0)) then
      (some ((true, ()), h))
    else
      (some (((decide (64 < u1)), ()), h))) : Option ((Bool × Unit) × Heap)).bind fun a0 =>
  bif a0.1.1 then
    (some (((.slice none 0 0), (2, ())), a0.2))
  else
    ((lenB u0).bind fun n1 =>
    bif (decide (u1 < (n1 : Int))) then
      (some (((.slice none 0 0), (10, ())), a0.2))
    else
      ((lenB u0).bind fun n2 =>
      (mkSl (Heap.next a0.2) 1 1 [(.int .u8 0)] (.int .i64 (IntKind.i64.wrap (u1 - (n2 : Int)))) (.int .i64 (IntKind.i64.wrap (u1 - (n2 : Int))))).bind fun p3 =>
      bnd ((Heap.new a0.2 (p3.2))) fun h4 =>
      (fillL [(.slice none 0 0), (.slice none 0 0)] [(0, 1, u0), (1, 1, p3.1)]).bind fun cs5 =>
      bnd ((Heap.new h4 (.cells cs5 false 1))) fun h6 =>
      (f_octet_Join n (.slice (some ⟨Heap.next h4, 0, some 0⟩) 2 2) h6).bind fun p7 =>
      bif !isTuple p7.1.1 then
        (some ((p7.1.1, (0, ())), p7.2))
      else
        (none)))
def rs_octet_Pad : Rs := [(.tmp 4, .any), (.tmp 5, (.int .i64))]
def ps_octet_Pad : List Ty := [.any, (.int .i64)]
theorem e_octet_Pad (n : Nat) (u0 : Value) (u1 : Int) (h : Heap) : f_octet_Pad n u0 u1 h = fB (sf_octet_Pad n) (it_octet_Pad n) n c2_octet_Pad rs_octet_Pad ps_octet_Pad (u0, (u1, ())) h := by kernel_rfl
noncomputable def s_octet_Pad (n : Nat) : Sf1 := mkSf ps_octet_Pad rs_octet_Pad fun a h => f_octet_Pad n a.1 a.2.1 h

/- (*wicket/sector.Disk).asked -/
def c2_sector_Disk_asked : C2 :=
  .seq (.reg [(⟨(some 4), .move (.const (.int .i64 0)), none⟩, (.int .i64))]) <|
  .seq (.block 0 <|
      .seq (.reg [(⟨(some 6), .move (.tmp 0), none⟩, .ptr),
          (⟨(some 7), .eqv false .ptr (.tmp 6) (.const (.pointer none)), none⟩, .bool),
          (⟨(some 5), .move (.tmp 7), none⟩, .bool)]) <|
      .cond (.tmp 5)
        (.seq (.reg [(⟨(some 4), .move (.const (.int .i64 1)), none⟩, (.int .i64))]) <|
        .ret)
        (.seq (.cutn [(8, .bool)] <|
            .reg [(⟨(some 9), .move (.tmp 1), none⟩, (.int .i64)),
              (⟨(some 10), .bin .lss (.tmp 9) (.const (.int .i64 0)), none⟩, .bool),
              (⟨(some 11), .move (.tmp 10), none⟩, .bool),
              (⟨(some 12), .move (.tmp 1), some (11, false)⟩, (.int .i64)),
              (⟨(some 13), .move (.tmp 0), some (11, false)⟩, .ptr),
              (⟨(some 14), .nilCheck (.tmp 13), some (11, false)⟩, .ptr),
              (⟨(some 15), .fieldAddr 0 (.tmp 14), some (11, false)⟩, .ptr),
              (⟨(some 16), .load false 1 (.tmp 15), some (11, false)⟩, .any),
              (⟨(some 17), .lenS (.tmp 16), some (11, false)⟩, (.int .i64)),
              (⟨(some 18), .bin .geq (.tmp 12) (.tmp 17), some (11, false)⟩, .bool),
              (⟨(some 19), .pick (.tmp 11) (.const (.bool true)) (.tmp 18), none⟩, .bool),
              (⟨(some 8), .move (.tmp 19), none⟩, .bool)]) <|
        .cond (.tmp 8)
          (.seq (.reg [(⟨(some 4), .move (.const (.int .i64 40)), none⟩, (.int .i64))]) <|
          .ret)
          (.skip))) <|
  .seq (.reg [(⟨(some 4), .move (.const (.int .i64 0)), none⟩, (.int .i64))]) <|
  .ret
noncomputable def sf_sector_Disk_asked (n : Nat) : Sf := sfOf []
noncomputable def it_sector_Disk_asked (n : Nat) : It := itOf []
def f_sector_Disk_asked (n : Nat) (u0 : Option Addr) (u1 : Int) (h : Heap) : Option ((Int × Unit) × Heap) :=
  bif (Option.isNone u0) then
    (some ((1, ()), h))
  else
    (((bif (decide (u1 < 0)) then
        (some ((true, ()), h))
      else
        ((u0).bind fun q0 =>
        (ldT .any h (some (fa q0 0))).bind fun x1 =>
        (lenB x1).bind fun n2 =>
        some (((decide ((n2 : Int) ≤ u1)), ()), h))) : Option ((Bool × Unit) × Heap)).bind fun a3 =>
    bif a3.1.1 then
      (some ((40, ()), a3.2))
    else
      (some ((0, ()), a3.2)))
def rs_sector_Disk_asked : Rs := [(.tmp 4, (.int .i64))]
def ps_sector_Disk_asked : List Ty := [.ptr, (.int .i64)]
theorem e_sector_Disk_asked (n : Nat) (u0 : Option Addr) (u1 : Int) (h : Heap) : f_sector_Disk_asked n u0 u1 h = fB (sf_sector_Disk_asked n) (it_sector_Disk_asked n) n c2_sector_Disk_asked rs_sector_Disk_asked ps_sector_Disk_asked (u0, (u1, ())) h := by kernel_rfl
noncomputable def s_sector_Disk_asked (n : Nat) : Sf1 := mkSf ps_sector_Disk_asked rs_sector_Disk_asked fun a h => f_sector_Disk_asked n a.1 a.2.1 h

/- slices.Clone[[]byte,byte] -/
def c2_slices_Clone_byte_byte : C2 :=
  .seq (.reg [(⟨(some 2), .move (.const (.slice none 0 0)), none⟩, .any)]) <|
  .seq (.seq (.reg [(⟨(some 3), .move (.tmp 0), none⟩, .any),
        (⟨(some 4), .eqv false .slice (.tmp 3) (.const (.slice none 0 0)), none⟩, .bool)]) <|
    .cond (.tmp 4)
      (.seq (.reg [(⟨(some 2), .move (.const (.slice none 0 0)), none⟩, .any)]) <|
      .ret)
      (.skip)) <|
  .seq (.reg [(⟨(some 5), .buildSlice 0 1 [] [], none⟩, .any),
      (⟨(some 6), .move (.tmp 0), none⟩, .any),
      (⟨(some 7), .append 1 1 (.tmp 5) (.tmp 6), none⟩, .any),
      (⟨(some 2), .move (.tmp 7), none⟩, .any)]) <|
  .ret
noncomputable def sf_slices_Clone_byte_byte (n : Nat) : Sf := sfOf []
noncomputable def it_slices_Clone_byte_byte (n : Nat) : It := itOf []
def f_slices_Clone_byte_byte (n : Nat) (u0 : Value) (h : Heap) : Option ((Value × Unit) × Heap) :=
  (eqVals h .slice u0 (.slice none 0 0)).bind fun b0 =>
  bif b0 then
    (some (((.slice none 0 0), ()), h))
  else
    ((fillL [] []).bind fun cs1 =>
    bnd ((Heap.new h (.cells cs1 false 1))) fun h2 =>
    (appendK h2 1 1 (.slice (some ⟨Heap.next h, 0, some 0⟩) 0 0) u0).bind fun p3 =>
    bif !isTuple p3.1 then
      (some ((p3.1, ()), p3.2))
    else
      (none))
def rs_slices_Clone_byte_byte : Rs := [(.tmp 2, .any)]
def ps_slices_Clone_byte_byte : List Ty := [.any]
theorem e_slices_Clone_byte_byte (n : Nat) (u0 : Value) (h : Heap) : f_slices_Clone_byte_byte n u0 h = fB (sf_slices_Clone_byte_byte n) (it_slices_Clone_byte_byte n) n c2_slices_Clone_byte_byte rs_slices_Clone_byte_byte ps_slices_Clone_byte_byte (u0, ()) h := by kernel_rfl
noncomputable def s_slices_Clone_byte_byte (n : Nat) : Sf1 := mkSf ps_slices_Clone_byte_byte rs_slices_Clone_byte_byte fun a h => f_slices_Clone_byte_byte n a.1 h

/- wicket/wicketref02.Push -/
def c2_wicketref02_Push : C2 :=
  .seq (.reg [(⟨(some 4), .move (.const (.int .u32 0)), none⟩, (.int .u32))]) <|
  .seq (.reg [(⟨(some 7), .move (.tmp 0), none⟩, (.int .u32)),
      (⟨(some 8), .move (.tmp 1), none⟩, (.int .u8)),
      (⟨(some 9), .conv .u32 (.tmp 8), none⟩, (.int .u32)),
      (⟨(some 10), .bin .xor (.tmp 7) (.tmp 9), none⟩, (.int .u32)),
      (⟨(some 0), .move (.tmp 10), none⟩, (.int .u32))]) <|
  .seq (.seq (.reg [(⟨(some 5), .move (.const (.int .i64 0)), none⟩, (.int .i64))]) <|
    .block 0 <|
      .loop [(0, (.int .u32)), (5, (.int .i64))] <|
        .seq (.seq (.reg [(⟨(some 11), .move (.tmp 5), none⟩, (.int .i64)),
              (⟨(some 12), .bin .lss (.tmp 11) (.const (.int .i64 8)), none⟩, .bool)]) <|
          .cond (.tmp 12)
            (.skip)
            (.exit 0)) <|
        .seq (.cutn [(0, (.int .u32))] <|
            .block 1 <|
              .seq (.reg [(⟨(some 15), .move (.tmp 0), none⟩, (.int .u32)),
                  (⟨(some 16), .bin .rem (.tmp 15) (.const (.int .u32 2)), none⟩, (.int .u32)),
                  (⟨(some 17), .bin .eql (.tmp 16) (.const (.int .u32 1)), none⟩, .bool),
                  (⟨(some 6), .move (.tmp 17), none⟩, .bool)]) <|
              .seq (.reg [(⟨(some 18), .move (.tmp 0), none⟩, (.int .u32)),
                  (⟨(some 19), .bin .quo (.tmp 18) (.const (.int .u32 2)), none⟩, (.int .u32)),
                  (⟨(some 0), .move (.tmp 19), none⟩, (.int .u32))]) <|
              .seq (.reg [(⟨(some 20), .move (.tmp 6), none⟩, .bool)]) <|
              .cond (.tmp 20)
                (.reg [(⟨(some 21), .move (.tmp 0), none⟩, (.int .u32)),
                  (⟨(some 22), .bin .xor (.tmp 21) (.const (.int .u32 3988292384)), none⟩, (.int .u32)),
                  (⟨(some 0), .move (.tmp 22), none⟩, (.int .u32))])
                (.skip)) <|
        .reg [(⟨(some 13), .move (.tmp 5), none⟩, (.int .i64)),
          (⟨(some 14), .bin .add (.tmp 13) (.const (.int .i64 1)), none⟩, (.int .i64)),
          (⟨(some 5), .move (.tmp 14), none⟩, (.int .i64))]) <|
  .seq (.reg [(⟨(some 23), .move (.tmp 0), none⟩, (.int .u32)),
      (⟨(some 4), .move (.tmp 23), none⟩, (.int .u32))]) <|
  .ret
def f_wicketref02_Push_L6 (n : Nat) (v1 : Int) (v2 : Int) (h3 : Heap) : Option (((Int × Int × Unit) × Heap) ⊕ ((Int × Unit) × Heap)) :=
  bif (decide (v2 < 8)) then
    (((bif (decide ((Int.tmod v1 2) = 1)) then
        ((bitB .xor .u32 (IntKind.u32.wrap (Int.tdiv v1 2)) .u32 3988292384).bind fun x4 =>
        some ((x4, ()), h3))
      else
        (some (((IntKind.u32.wrap (Int.tdiv v1 2)), ()), h3))) : Option ((Int × Unit) × Heap)).bind fun a5 =>
    some (.inl ((a5.1.1, ((IntKind.i64.wrap (v2 + 1)), ())), a5.2)))
  else
    (some (.inr ((v1, ()), h3)))
noncomputable def sf_wicketref02_Push (n : Nat) : Sf := sfOf []
noncomputable def it_wicketref02_Push (n : Nat) : It := itOf []
def f_wicketref02_Push (n : Nat) (u0 : Int) (u1 : Int) (h : Heap) : Option ((Int × Unit) × Heap) :=
  (bitB .xor .u32 u0 .u32 (IntKind.u32.wrap (u1))).bind fun x0 =>
  loopT (fun a => f_wicketref02_Push_L6 n a.1.1 a.1.2.1 a.2) n ((x0, (0, ())), h)
def rs_wicketref02_Push : Rs := [(.tmp 4, (.int .u32))]
def ps_wicketref02_Push : List Ty := [(.int .u32), (.int .u8)]
theorem e_wicketref02_Push (n : Nat) (u0 : Int) (u1 : Int) (h : Heap) : f_wicketref02_Push n u0 u1 h = fB (sf_wicketref02_Push n) (it_wicketref02_Push n) n c2_wicketref02_Push rs_wicketref02_Push ps_wicketref02_Push (u0, (u1, ())) h := by kernel_rfl
noncomputable def s_wicketref02_Push (n : Nat) : Sf1 := mkSf ps_wicketref02_Push rs_wicketref02_Push fun a h => f_wicketref02_Push n a.1 a.2.1 h

/- slices.Backward[[]wicket/sector.waiting,wicket/sector.waiting]$1 -/
def c2_slices_Backward_sector_waiting_sector_waiting_1 : C2 :=
  .seq (.reg [(⟨(some 4), .load false 1 (.tmp 1), none⟩, .any),
      (⟨(some 5), .lenS (.tmp 4), none⟩, (.int .i64)),
      (⟨(some 6), .bin .sub (.tmp 5) (.const (.int .i64 1)), none⟩, (.int .i64)),
      (⟨(some 3), .move (.tmp 6), none⟩, (.int .i64))]) <|
  .block 0 <|
    .loop [(3, (.int .i64))] <|
      .seq (.seq (.reg [(⟨(some 7), .move (.tmp 3), none⟩, (.int .i64)),
            (⟨(some 8), .bin .geq (.tmp 7) (.const (.int .i64 0)), none⟩, .bool)]) <|
        .cond (.tmp 8)
          (.skip)
          (.exit 0)) <|
      .seq (.block 1 <|
          .seq (.reg [(⟨(some 11), .move (.tmp 0), none⟩, .any),
              (⟨(some 12), .move (.tmp 3), none⟩, (.int .i64)),
              (⟨(some 13), .load false 1 (.tmp 1), none⟩, .any),
              (⟨(some 14), .move (.tmp 3), none⟩, (.int .i64)),
              (⟨(some 15), .idxSlice 65 (.tmp 13) (.tmp 14), none⟩, .ptr),
              (⟨(some 16), .load true 65 (.tmp 15), none⟩, .any),
              (⟨(some 17), .callv (.tmp 11) [(.tmp 12), (.tmp 16)], none⟩, .bool),
              (⟨(some 18), .un .not (.tmp 17), none⟩, .bool)]) <|
          .cond (.tmp 18)
            (.ret)
            (.skip)) <|
      .reg [(⟨(some 9), .move (.tmp 3), none⟩, (.int .i64)),
        (⟨(some 10), .bin .sub (.tmp 9) (.const (.int .i64 1)), none⟩, (.int .i64)),
        (⟨(some 3), .move (.tmp 10), none⟩, (.int .i64))]
def f_slices_Backward_sector_waiting_sector_waiting_1_L8 {V : Type} (hp : V → Heap) (up : V → Heap → V) (y : (Int × Value × Unit) → V → Option (Bool × V)) (n : Nat) (u0 : Option Addr) (v2 : Int) (w3 : V) : Option (((Int × Unit) × V) ⊕ (V)) :=
  bif (decide (0 ≤ v2)) then
    ((ldT .any (hp w3) u0).bind fun x4 =>
    (ixB 65 x4 v2).bind fun q5 =>
    (ldA 65 (hp w3) (some q5)).bind fun cs6 =>
    (y (v2, ((.agg ⟨cs6⟩), ())) w3).bind fun p7 =>
    bif (!p7.1) then
      (some (.inr p7.2))
    else
      (some (.inl (((IntKind.i64.wrap (v2 - 1)), ()), p7.2))))
  else
    (some (.inr w3))
noncomputable def sf_slices_Backward_sector_waiting_sector_waiting_1 (n : Nat) : Sf := sfOf []
noncomputable def it_slices_Backward_sector_waiting_sector_waiting_1 (n : Nat) : It := itOf []
def f_slices_Backward_sector_waiting_sector_waiting_1 {V : Type} (hp : V → Heap) (up : V → Heap → V) (y : (Int × Value × Unit) → V → Option (Bool × V)) (n : Nat) (u0 : Option Addr) (w : V) : Option V :=
  (ldT .any (hp w) u0).bind fun x0 =>
  (lenB x0).bind fun n1 =>
  loopT (fun a => f_slices_Backward_sector_waiting_sector_waiting_1_L8 hp up y n u0 a.1.1 a.2) n (((IntKind.i64.wrap ((n1 : Int) - 1)), ()), w)
theorem e_slices_Backward_sector_waiting_sector_waiting_1 {V : Type} (hp : V → Heap) (up : V → Heap → V) (y : (Int × Value × Unit) → V → Option (Bool × V)) (n : Nat) (u0 : Option Addr) (w : V) : f_slices_Backward_sector_waiting_sector_waiting_1 hp up y n u0 w = fI (sf_slices_Backward_sector_waiting_sector_waiting_1 n) (it_slices_Backward_sector_waiting_sector_waiting_1 n) n c2_slices_Backward_sector_waiting_sector_waiting_1 [] [.ptr] [(.int .i64), .any] hp up y () (u0, ()) w := by kernel_rfl
noncomputable def i_slices_Backward_sector_waiting_sector_waiting_1 (n : Nat) : It1 := mkIt [] [.ptr] [(.int .i64), .any] fun hp up y _ a2 v => f_slices_Backward_sector_waiting_sector_waiting_1 hp up y n a2.1 v

/- wicket/super.within -/
def c2_super_within : C2 :=
  .seq (.reg [(⟨(some 4), .move (.const (.bool false)), none⟩, .bool)]) <|
  .seq (.reg [(⟨(some 5), .move (.tmp 0), none⟩, (.int .i64)),
      (⟨(some 6), .bin .geq (.tmp 5) (.const (.int .i64 1)), none⟩, .bool),
      (⟨(some 7), .move (.tmp 6), none⟩, .bool),
      (⟨(some 8), .move (.tmp 0), some (7, true)⟩, (.int .i64)),
      (⟨(some 9), .move (.tmp 1), some (7, true)⟩, (.int .i64)),
      (⟨(some 10), .bin .leq (.tmp 8) (.tmp 9), some (7, true)⟩, .bool),
      (⟨(some 11), .pick (.tmp 7) (.tmp 10) (.const (.bool false)), none⟩, .bool),
      (⟨(some 4), .move (.tmp 11), none⟩, .bool)]) <|
  .ret
noncomputable def sf_super_within (n : Nat) : Sf := sfOf []
noncomputable def it_super_within (n : Nat) : It := itOf []
def f_super_within (n : Nat) (u0 : Int) (u1 : Int) (h : Heap) : Option ((Bool × Unit) × Heap) :=
  bif (decide (1 ≤ u0)) then
    (some (((decide (u0 ≤ u1)), ()), h))
  else
    (some ((false, ()), h))
def rs_super_within : Rs := [(.tmp 4, .bool)]
def ps_super_within : List Ty := [(.int .i64), (.int .i64)]
theorem e_super_within (n : Nat) (u0 : Int) (u1 : Int) (h : Heap) : f_super_within n u0 u1 h = fB (sf_super_within n) (it_super_within n) n c2_super_within rs_super_within ps_super_within (u0, (u1, ())) h := by kernel_rfl
noncomputable def s_super_within (n : Nat) : Sf1 := mkSf ps_super_within rs_super_within fun a h => f_super_within n a.1 a.2.1 h

/- wicket/wicketlaw01.Roomy -/
def c2_wicketlaw01_Roomy : C2 :=
  .seq (.reg [(⟨(some 2), .move (.const (.slice none 0 0)), none⟩, .any)]) <|
  .seq (.reg [(⟨(some 3), .move (.tmp 0), none⟩, .any),
      (⟨(some 4), .call k_wicketlaw01_Own [(.tmp 3)], none⟩, .any),
      (⟨(some 5), .buildSlice 2 1 [(.int .u8 0), (.int .u8 0)] [(0, 1, (.const (.int .u8 90))), (1, 1, (.const (.int .u8 165)))], none⟩, .any),
      (⟨(some 6), .append 1 1 (.tmp 4) (.tmp 5), none⟩, .any),
      (⟨(some 7), .move (.tmp 0), none⟩, .any),
      (⟨(some 8), .lenS (.tmp 7), none⟩, (.int .i64)),
      (⟨(some 9), .slice 1 (.tmp 6) none (some (.tmp 8)) none, none⟩, .any),
      (⟨(some 2), .move (.tmp 9), none⟩, .any)]) <|
  .ret
noncomputable def sf_wicketlaw01_Roomy (n : Nat) : Sf := sfOf [(k_wicketlaw01_Own, s_wicketlaw01_Own n)]
noncomputable def it_wicketlaw01_Roomy (n : Nat) : It := itOf []
def f_wicketlaw01_Roomy (n : Nat) (u0 : Value) (h : Heap) : Option ((Value × Unit) × Heap) :=
  (f_wicketlaw01_Own n u0 h).bind fun p0 =>
  (fillL [(.int .u8 0), (.int .u8 0)] [(0, 1, (.int .u8 90)), (1, 1, (.int .u8 165))]).bind fun cs1 =>
  bnd ((Heap.new p0.2 (.cells cs1 false 1))) fun h2 =>
  (appendK h2 1 1 p0.1.1 (.slice (some ⟨Heap.next p0.2, 0, some 0⟩) 2 2)).bind fun p3 =>
  (lenB u0).bind fun n4 =>
  (sliceK p3.2 1 none (some (.int .i64 (n4 : Int))) none p3.1).bind fun p5 =>
  bif !isTuple p5.1 then
    (some ((p5.1, ()), p3.2))
  else
    (none)
def rs_wicketlaw01_Roomy : Rs := [(.tmp 2, .any)]
def ps_wicketlaw01_Roomy : List Ty := [.any]
theorem e_wicketlaw01_Roomy (n : Nat) (u0 : Value) (h : Heap) : f_wicketlaw01_Roomy n u0 h = fB (sf_wicketlaw01_Roomy n) (it_wicketlaw01_Roomy n) n c2_wicketlaw01_Roomy rs_wicketlaw01_Roomy ps_wicketlaw01_Roomy (u0, ()) h := by kernel_rfl
noncomputable def s_wicketlaw01_Roomy (n : Nat) : Sf1 := mkSf ps_wicketlaw01_Roomy rs_wicketlaw01_Roomy fun a h => f_wicketlaw01_Roomy n a.1 h

/- wicket/octet.Put -/
def c2_octet_Put : C2 :=
  .seq (.reg [(⟨(some 4), .move (.const (.slice none 0 0)), none⟩, .any),
      (⟨(some 5), .move (.const (.int .i64 0)), none⟩, (.int .i64))]) <|
  .seq (.seq (.reg [(⟨(some 8), .move (.tmp 1), none⟩, (.int .i64)),
        (⟨(some 9), .call k_octet_may [(.tmp 8)], none⟩, .bool),
        (⟨(some 10), .un .not (.tmp 9), none⟩, .bool)]) <|
    .cond (.tmp 10)
      (.seq (.reg [(⟨(some 4), .move (.const (.slice none 0 0)), none⟩, .any),
          (⟨(some 5), .move (.const (.int .i64 2)), none⟩, (.int .i64))]) <|
      .ret)
      (.skip)) <|
  .seq (.reg [(⟨(some 11), .move (.tmp 1), none⟩, (.int .i64)),
      (⟨(some 12), .makeSlice 1 1 [(.int .u8 0)] (.tmp 11) (.tmp 11), none⟩, .any),
      (⟨(some 6), .move (.tmp 12), none⟩, .any)]) <|
  .seq (.cutn [(0, (.int .u64))] <|
      .seq (.reg [(⟨(some 13), .move (.tmp 6), none⟩, .any),
          (⟨(some 14), .lenS (.tmp 13), none⟩, (.int .i64)),
          (⟨(some 15), .move (.const (.int .i64 0)), none⟩, (.int .i64))]) <|
      .block 0 <|
        .loop [(0, (.int .u64)), (15, (.int .i64))] <|
          .seq (.reg [(⟨(some 16), .bin .lss (.tmp 15) (.tmp 14), none⟩, .any)]) <|
          .seq (.cond (.tmp 16)
              (.skip)
              (.exit 0)) <|
          .seq (.block 1 <|
              .seq (.reg [(⟨(some 17), .move (.tmp 15), none⟩, (.int .i64)),
                  (⟨(some 7), .move (.tmp 17), none⟩, (.int .i64))]) <|
              .seq (.reg [(⟨(some 18), .move (.tmp 6), none⟩, .any),
                  (⟨(some 19), .move (.tmp 7), none⟩, (.int .i64)),
                  (⟨(some 20), .move (.tmp 0), none⟩, (.int .u64)),
                  (⟨(some 21), .conv .u8 (.tmp 20), none⟩, (.int .u8)),
                  (⟨(some 22), .idxSlice 1 (.tmp 18) (.tmp 19), none⟩, .ptr),
                  (⟨none, .store 1 (.tmp 22) (.tmp 21), none⟩, .any)]) <|
              .reg [(⟨(some 23), .move (.tmp 0), none⟩, (.int .u64)),
                (⟨(some 24), .bin .shr (.tmp 23) (.const (.int .u64 8)), none⟩, (.int .u64)),
                (⟨(some 0), .move (.tmp 24), none⟩, (.int .u64))]) <|
          .reg [(⟨(some 25), .bin .add (.tmp 15) (.const (.int .i64 1)), none⟩, (.int .i64)),
            (⟨(some 15), .move (.tmp 25), none⟩, (.int .i64))]) <|
  .seq (.seq (.reg [(⟨(some 26), .move (.tmp 0), none⟩, (.int .u64)),
        (⟨(some 27), .bin .neq (.tmp 26) (.const (.int .u64 0)), none⟩, .bool)]) <|
    .cond (.tmp 27)
      (.seq (.reg [(⟨(some 4), .move (.const (.slice none 0 0)), none⟩, .any),
          (⟨(some 5), .move (.const (.int .i64 10)), none⟩, (.int .i64))]) <|
      .ret)
      (.skip)) <|
  .seq (.reg [(⟨(some 28), .move (.tmp 6), none⟩, .any),
      (⟨(some 4), .move (.tmp 28), none⟩, .any),
      (⟨(some 5), .move (.const (.int .i64 0)), none⟩, (.int .i64))]) <|
  .ret
def f_octet_Put_L10 (n : Nat) (p1 : (Value × AObj)) (n3 : Nat) (v4 : Int) (v5 : Int) (h6 : Heap) : Option (((Int × Int × Unit) × Heap) ⊕ ((Int × Unit) × Heap)) :=
  bif (decide (v5 < (n3 : Int))) then
    ((ixB 1 p1.1 v5).bind fun q7 =>
    (stB 1 (.int .u8 (IntKind.u8.wrap (v4))) h6 (some q7)).bind fun h8 =>
    (bitB .shr .u64 v4 .u64 8).bind fun x9 =>
    some (.inl ((x9, ((IntKind.i64.wrap (v5 + 1)), ())), h8)))
  else
    (some (.inr ((v4, ()), h6)))
noncomputable def sf_octet_Put (n : Nat) : Sf := sfOf [(k_octet_may, s_octet_may n)]
noncomputable def it_octet_Put (n : Nat) : It := itOf []
def f_octet_Put (n : Nat) (u0 : Int) (u1 : Int) (h : Heap) : Option ((Value × Int × Unit) × Heap) :=
  (f_octet_may n u1 h).bind fun p0 =>
  bif (!p0.1.1) then
    (some (((.slice none 0 0), (2, ())), p0.2))
  else
    ((mkSl (Heap.next p0.2) 1 1 [(.int .u8 0)] (.int .i64 u1) (.int .i64 u1)).bind fun p1 =>
    bnd ((Heap.new p0.2 (p1.2))) fun h2 =>
    (((lenB p1.1).bind fun n3 =>
      loopT (fun a => f_octet_Put_L10 n p1 n3 a.1.1 a.1.2.1 a.2) n ((u0, (0, ())), h2)) : Option ((Int × Unit) × Heap)).bind fun a11 =>
    bif (!decide (a11.1.1 = 0)) then
      (some (((.slice none 0 0), (10, ())), a11.2))
    else
      (bif !isTuple p1.1 then
        (some ((p1.1, (0, ())), a11.2))
      else
        (none)))
def rs_octet_Put : Rs := [(.tmp 4, .any), (.tmp 5, (.int .i64))]
def ps_octet_Put : List Ty := [(.int .u64), (.int .i64)]
theorem e_octet_Put (n : Nat) (u0 : Int) (u1 : Int) (h : Heap) : f_octet_Put n u0 u1 h = fB (sf_octet_Put n) (it_octet_Put n) n c2_octet_Put rs_octet_Put ps_octet_Put (u0, (u1, ())) h := by kernel_rfl
noncomputable def s_octet_Put (n : Nat) : Sf1 := mkSf ps_octet_Put rs_octet_Put fun a h => f_octet_Put n a.1 a.2.1 h

/- wicket/sum.Of -/
def c2_sum_Of : C2 :=
  .seq (.reg [(⟨(some 2), .move (.const (.int .u32 0)), none⟩, (.int .u32))]) <|
  .seq (.reg [(⟨(some 3), .move (.const (.int .u32 4294967295)), none⟩, (.int .u32))]) <|
  .seq (.cutn [(3, (.int .u32))] <|
      .seq (.reg [(⟨(some 8), .move (.tmp 0), none⟩, .any),
          (⟨(some 9), .lenS (.tmp 8), none⟩, (.int .i64)),
          (⟨(some 10), .move (.const (.int .i64 0)), none⟩, (.int .i64))]) <|
      .block 0 <|
        .loop [(3, (.int .u32)), (10, (.int .i64))] <|
          .seq (.reg [(⟨(some 11), .bin .lss (.tmp 10) (.tmp 9), none⟩, .any)]) <|
          .seq (.cond (.tmp 11)
              (.skip)
              (.exit 0)) <|
          .seq (.cutn [(3, (.int .u32))] <|
              .block 1 <|
                .seq (.reg [(⟨(some 12), .idxSlice 1 (.tmp 8) (.tmp 10), none⟩, .ptr),
                    (⟨(some 13), .load false 1 (.tmp 12), none⟩, .any),
                    (⟨(some 5), .move (.tmp 13), none⟩, .any)]) <|
                .seq (.reg [(⟨(some 14), .move (.tmp 5), none⟩, .any),
                    (⟨(some 15), .lenS (.tmp 14), none⟩, (.int .i64)),
                    (⟨(some 16), .move (.const (.int .i64 0)), none⟩, (.int .i64))]) <|
                .block 2 <|
                  .loop [(3, (.int .u32)), (16, (.int .i64))] <|
                    .seq (.reg [(⟨(some 17), .bin .lss (.tmp 16) (.tmp 15), none⟩, .any)]) <|
                    .seq (.cond (.tmp 17)
                        (.skip)
                        (.exit 2)) <|
                    .seq (.block 3 <|
                        .seq (.reg [(⟨(some 18), .idxSlice 1 (.tmp 14) (.tmp 16), none⟩, .ptr),
                            (⟨(some 19), .load false 1 (.tmp 18), none⟩, (.int .u8)),
                            (⟨(some 7), .move (.tmp 19), none⟩, (.int .u8))]) <|
                        .reg [(⟨(some 20), .move (.tmp 3), none⟩, (.int .u32)),
                          (⟨(some 21), .move (.tmp 7), none⟩, (.int .u8)),
                          (⟨(some 22), .call k_sum_push [(.tmp 20), (.tmp 21)], none⟩, (.int .u32)),
                          (⟨(some 3), .move (.tmp 22), none⟩, (.int .u32))]) <|
                    .reg [(⟨(some 23), .bin .add (.tmp 16) (.const (.int .i64 1)), none⟩, (.int .i64)),
                      (⟨(some 16), .move (.tmp 23), none⟩, (.int .i64))]) <|
          .reg [(⟨(some 24), .bin .add (.tmp 10) (.const (.int .i64 1)), none⟩, (.int .i64)),
            (⟨(some 10), .move (.tmp 24), none⟩, (.int .i64))]) <|
  .seq (.reg [(⟨(some 25), .move (.tmp 3), none⟩, (.int .u32)),
      (⟨(some 26), .un .xor (.tmp 25), none⟩, (.int .u32)),
      (⟨(some 2), .move (.tmp 26), none⟩, (.int .u32))]) <|
  .ret
def f_sum_Of_L13 (n : Nat) (x5 : Value) (n6 : Nat) (v7 : Int) (v8 : Int) (h9 : Heap) : Option (((Int × Int × Unit) × Heap) ⊕ ((Int × Unit) × Heap)) :=
  bif (decide (v8 < (n6 : Int))) then
    ((ixB 1 x5 v8).bind fun q10 =>
    (ldT (.int .u8) h9 (some q10)).bind fun x11 =>
    (f_sum_push n v7 x11 h9).bind fun p12 =>
    some (.inl ((p12.1.1, ((IntKind.i64.wrap (v8 + 1)), ())), p12.2)))
  else
    (some (.inr ((v7, ()), h9)))
def f_sum_Of_L15 (n : Nat) (u0 : Value) (n0 : Nat) (v1 : Int) (v2 : Int) (h3 : Heap) : Option (((Int × Int × Unit) × Heap) ⊕ ((Int × Unit) × Heap)) :=
  bif (decide (v2 < (n0 : Int))) then
    ((((ixB 1 u0 v2).bind fun q4 =>
      (ldT .any h3 (some q4)).bind fun x5 =>
      (lenB x5).bind fun n6 =>
      loopT (fun a => f_sum_Of_L13 n x5 n6 a.1.1 a.1.2.1 a.2) n ((v1, (0, ())), h3)) : Option ((Int × Unit) × Heap)).bind fun a14 =>
    some (.inl ((a14.1.1, ((IntKind.i64.wrap (v2 + 1)), ())), a14.2)))
  else
    (some (.inr ((v1, ()), h3)))
noncomputable def sf_sum_Of (n : Nat) : Sf := sfOf [(k_sum_push, s_sum_push n)]
noncomputable def it_sum_Of (n : Nat) : It := itOf []
def f_sum_Of (n : Nat) (u0 : Value) (h : Heap) : Option ((Int × Unit) × Heap) :=
  (((lenB u0).bind fun n0 =>
    loopT (fun a => f_sum_Of_L15 n u0 n0 a.1.1 a.1.2.1 a.2) n ((4294967295, (0, ())), h)) : Option ((Int × Unit) × Heap)).bind fun a16 =>
  (unB .xor .u32 a16.1.1).bind fun x17 =>
  some ((x17, ()), a16.2)
def rs_sum_Of : Rs := [(.tmp 2, (.int .u32))]
def ps_sum_Of : List Ty := [.any]
theorem e_sum_Of (n : Nat) (u0 : Value) (h : Heap) : f_sum_Of n u0 h = fB (sf_sum_Of n) (it_sum_Of n) n c2_sum_Of rs_sum_Of ps_sum_Of (u0, ()) h := by kernel_rfl
noncomputable def s_sum_Of (n : Nat) : Sf1 := mkSf ps_sum_Of rs_sum_Of fun a h => f_sum_Of n a.1 h

/- (*wicket/sector.Disk).Write -/
def c2_sector_Disk_Write : C2 :=
  .seq (.reg [(⟨(some 6), .move (.const (.int .i64 0)), none⟩, (.int .i64))]) <|
  .seq (.seq (.reg [(⟨(some 8), .move (.tmp 0), none⟩, .ptr),
        (⟨(some 9), .move (.tmp 1), none⟩, (.int .i64)),
        (⟨(some 10), .call k_sector_Disk_asked [(.tmp 8), (.tmp 9)], none⟩, (.int .i64)),
        (⟨(some 7), .move (.tmp 10), none⟩, (.int .i64))]) <|
    .seq (.reg [(⟨(some 11), .move (.tmp 7), none⟩, (.int .i64)),
        (⟨(some 12), .bin .neq (.tmp 11) (.const (.int .i64 0)), none⟩, .bool)]) <|
    .cond (.tmp 12)
      (.seq (.reg [(⟨(some 13), .move (.tmp 7), none⟩, (.int .i64)),
          (⟨(some 6), .move (.tmp 13), none⟩, (.int .i64))]) <|
      .ret)
      (.skip)) <|
  .seq (.seq (.reg [(⟨(some 14), .move (.tmp 2), none⟩, .any),
        (⟨(some 15), .lenS (.tmp 14), none⟩, (.int .i64)),
        (⟨(some 16), .bin .neq (.tmp 15) (.const (.int .i64 64)), none⟩, .bool)]) <|
    .cond (.tmp 16)
      (.seq (.reg [(⟨(some 6), .move (.const (.int .i64 2)), none⟩, (.int .i64))]) <|
      .ret)
      (.skip)) <|
  .seq (.regd [(⟨0, [], false, ⟨(some 17), .move (.tmp 0), none⟩⟩, .ptr),
      (⟨1, [], false, ⟨(some 18), .move (.tmp 0), none⟩⟩, .ptr),
      (⟨2, [1], false, ⟨(some 19), .nilCheck (.tmp 18), none⟩⟩, .ptr),
      (⟨3, [2, 1], false, ⟨(some 20), .fieldAddr 1 (.tmp 19), none⟩⟩, .ptr),
      (⟨4, [3, 2, 1], false, ⟨(some 21), .load false 1 (.tmp 20), none⟩⟩, .any),
      (⟨5, [], false, ⟨(some 22), .move (.tmp 1), none⟩⟩, (.int .i64)),
      (⟨6, [], false, ⟨(some 23), .move (.tmp 2), none⟩⟩, .any),
      (⟨7, [6], false, ⟨(some 24), .arrAt 64 (.tmp 23), none⟩⟩, .ptr),
      (⟨8, [7, 6], false, ⟨(some 25), .load true 64 (.tmp 24), none⟩⟩, .any),
      (⟨9, [5, 8, 7, 6], false, ⟨(some 26), .build [(.int .i64 0), (.int .u8 0), (.int .u8 0), (.int .u8 0), (.int .u8 0), (.int .u8 0), (.int .u8 0), (.int .u8 0), (.int .u8 0), (.int .u8 0), (.int .u8 0), (.int .u8 0), (.int .u8 0), (.int .u8 0), (.int .u8 0), (.int .u8 0), (.int .u8 0), (.int .u8 0), (.int .u8 0), (.int .u8 0), (.int .u8 0), (.int .u8 0), (.int .u8 0), (.int .u8 0), (.int .u8 0), (.int .u8 0), (.int .u8 0), (.int .u8 0), (.int .u8 0), (.int .u8 0), (.int .u8 0), (.int .u8 0), (.int .u8 0), (.int .u8 0), (.int .u8 0), (.int .u8 0), (.int .u8 0), (.int .u8 0), (.int .u8 0), (.int .u8 0), (.int .u8 0), (.int .u8 0), (.int .u8 0), (.int .u8 0), (.int .u8 0), (.int .u8 0), (.int .u8 0), (.int .u8 0), (.int .u8 0), (.int .u8 0), (.int .u8 0), (.int .u8 0), (.int .u8 0), (.int .u8 0), (.int .u8 0), (.int .u8 0), (.int .u8 0), (.int .u8 0), (.int .u8 0), (.int .u8 0), (.int .u8 0), (.int .u8 0), (.int .u8 0), (.int .u8 0), (.int .u8 0)] [(0, 1, (.tmp 22)), (1, 64, (.tmp 25))], none⟩⟩, .any),
      (⟨10, [9, 5, 8, 7, 6], false, ⟨(some 27), .buildSlice 1 65 [(.int .i64 0), (.int .u8 0), (.int .u8 0), (.int .u8 0), (.int .u8 0), (.int .u8 0), (.int .u8 0), (.int .u8 0), (.int .u8 0), (.int .u8 0), (.int .u8 0), (.int .u8 0), (.int .u8 0), (.int .u8 0), (.int .u8 0), (.int .u8 0), (.int .u8 0), (.int .u8 0), (.int .u8 0), (.int .u8 0), (.int .u8 0), (.int .u8 0), (.int .u8 0), (.int .u8 0), (.int .u8 0), (.int .u8 0), (.int .u8 0), (.int .u8 0), (.int .u8 0), (.int .u8 0), (.int .u8 0), (.int .u8 0), (.int .u8 0), (.int .u8 0), (.int .u8 0), (.int .u8 0), (.int .u8 0), (.int .u8 0), (.int .u8 0), (.int .u8 0), (.int .u8 0), (.int .u8 0), (.int .u8 0), (.int .u8 0), (.int .u8 0), (.int .u8 0), (.int .u8 0), (.int .u8 0), (.int .u8 0), (.int .u8 0), (.int .u8 0), (.int .u8 0), (.int .u8 0), (.int .u8 0), (.int .u8 0), (.int .u8 0), (.int .u8 0), (.int .u8 0), (.int .u8 0), (.int .u8 0), (.int .u8 0), (.int .u8 0), (.int .u8 0), (.int .u8 0), (.int .u8 0)] [(0, 65, (.tmp 26))], none⟩⟩, .any),
      (⟨11, [4, 10, 3, 2, 1, 9, 5, 8, 7, 6], true, ⟨(some 28), .append 72 65 (.tmp 21) (.tmp 27), none⟩⟩, .any),
      (⟨12, [0, 1, 2, 3, 4, 5, 6, 7, 8, 9, 10, 11], false, ⟨(some 29), .nilCheck (.tmp 17), none⟩⟩, .ptr),
      (⟨13, [12, 0, 1, 2, 3, 4, 5, 6, 7, 8, 9, 10, 11], false, ⟨(some 30), .fieldAddr 1 (.tmp 29), none⟩⟩, .ptr),
      (⟨14, [13, 11, 0, 1, 2, 3, 4, 5, 6, 7, 8, 9, 10, 12], true, ⟨none, .store 1 (.tmp 30) (.tmp 28), none⟩⟩, .any)]) <|
  .seq (.reg [(⟨(some 6), .move (.const (.int .i64 0)), none⟩, (.int .i64))]) <|
  .ret
noncomputable def sf_sector_Disk_Write (n : Nat) : Sf := sfOf [(k_sector_Disk_asked, s_sector_Disk_asked n)]
noncomputable def it_sector_Disk_Write (n : Nat) : It := itOf []
def f_sector_Disk_Write (n : Nat) (u0 : Option Addr) (u1 : Int) (u2 : Value) (h : Heap) : Option ((Int × Unit) × Heap) :=
  (f_sector_Disk_asked n u0 u1 h).bind fun p0 =>
  bif (!decide (p0.1.1 = 0)) then
    (some ((p0.1.1, ()), p0.2))
  else
    ((lenB u2).bind fun n1 =>
    bif (!decide ((n1 : Int) = 64)) then
      (some ((2, ()), p0.2))
    else
      ((u0).bind fun q2 =>
      (ldT .any p0.2 (some (fa q2 1))).bind fun x3 =>
      (arrB p0.2 64 u2).bind fun q4 =>
      (ldA 64 p0.2 q4).bind fun cs5 =>
      (fillL [(.int .i64 0), (.int .u8 0), (.int .u8 0), (.int .u8 0), (.int .u8 0), (.int .u8 0), (.int .u8 0), (.int .u8 0), (.int .u8 0), (.int .u8 0), (.int .u8 0), (.int .u8 0), (.int .u8 0), (.int .u8 0), (.int .u8 0), (.int .u8 0), (.int .u8 0), (.int .u8 0), (.int .u8 0), (.int .u8 0), (.int .u8 0), (.int .u8 0), (.int .u8 0), (.int .u8 0), (.int .u8 0), (.int .u8 0), (.int .u8 0), (.int .u8 0), (.int .u8 0), (.int .u8 0), (.int .u8 0), (.int .u8 0), (.int .u8 0), (.int .u8 0), (.int .u8 0), (.int .u8 0), (.int .u8 0), (.int .u8 0), (.int .u8 0), (.int .u8 0), (.int .u8 0), (.int .u8 0), (.int .u8 0), (.int .u8 0), (.int .u8 0), (.int .u8 0), (.int .u8 0), (.int .u8 0), (.int .u8 0), (.int .u8 0), (.int .u8 0), (.int .u8 0), (.int .u8 0), (.int .u8 0), (.int .u8 0), (.int .u8 0), (.int .u8 0), (.int .u8 0), (.int .u8 0), (.int .u8 0), (.int .u8 0), (.int .u8 0), (.int .u8 0), (.int .u8 0), (.int .u8 0)] [(0, 1, (.int .i64 u1)), (1, 64, (.agg ⟨cs5⟩))]).bind fun cs6 =>
      (fillL [(.int .i64 0), (.int .u8 0), (.int .u8 0), (.int .u8 0), (.int .u8 0), (.int .u8 0), (.int .u8 0), (.int .u8 0), (.int .u8 0), (.int .u8 0), (.int .u8 0), (.int .u8 0), (.int .u8 0), (.int .u8 0), (.int .u8 0), (.int .u8 0), (.int .u8 0), (.int .u8 0), (.int .u8 0), (.int .u8 0), (.int .u8 0), (.int .u8 0), (.int .u8 0), (.int .u8 0), (.int .u8 0), (.int .u8 0), (.int .u8 0), (.int .u8 0), (.int .u8 0), (.int .u8 0), (.int .u8 0), (.int .u8 0), (.int .u8 0), (.int .u8 0), (.int .u8 0), (.int .u8 0), (.int .u8 0), (.int .u8 0), (.int .u8 0), (.int .u8 0), (.int .u8 0), (.int .u8 0), (.int .u8 0), (.int .u8 0), (.int .u8 0), (.int .u8 0), (.int .u8 0), (.int .u8 0), (.int .u8 0), (.int .u8 0), (.int .u8 0), (.int .u8 0), (.int .u8 0), (.int .u8 0), (.int .u8 0), (.int .u8 0), (.int .u8 0), (.int .u8 0), (.int .u8 0), (.int .u8 0), (.int .u8 0), (.int .u8 0), (.int .u8 0), (.int .u8 0), (.int .u8 0)] [(0, 65, (.agg ⟨cs6⟩))]).bind fun cs7 =>
      bnd ((Heap.new p0.2 (.cells cs7 false 65))) fun h8 =>
      (appendK h8 72 65 x3 (.slice (some ⟨Heap.next p0.2, 0, some 0⟩) 1 1)).bind fun p9 =>
      (u0).bind fun q10 =>
      (stB 1 p9.1 p9.2 (some (fa q10 1))).bind fun h11 =>
      some ((0, ()), h11)))
def rs_sector_Disk_Write : Rs := [(.tmp 6, (.int .i64))]
def ps_sector_Disk_Write : List Ty := [.ptr, (.int .i64), .any]
theorem e_sector_Disk_Write (n : Nat) (u0 : Option Addr) (u1 : Int) (u2 : Value) (h : Heap) : f_sector_Disk_Write n u0 u1 u2 h = fB (sf_sector_Disk_Write n) (it_sector_Disk_Write n) n c2_sector_Disk_Write rs_sector_Disk_Write ps_sector_Disk_Write (u0, (u1, (u2, ()))) h := by kernel_rfl
noncomputable def s_sector_Disk_Write (n : Nat) : Sf1 := mkSf ps_sector_Disk_Write rs_sector_Disk_Write fun a h => f_sector_Disk_Write n a.1 a.2.1 a.2.2.1 h

/- wicket/wicketref02.Of -/
def c2_wicketref02_Of : C2 :=
  .seq (.reg [(⟨(some 2), .move (.const (.int .u32 0)), none⟩, (.int .u32))]) <|
  .seq (.reg [(⟨(some 3), .move (.const (.int .u32 4294967295)), none⟩, (.int .u32))]) <|
  .seq (.cutn [(3, (.int .u32))] <|
      .seq (.reg [(⟨(some 4), .move (.const (.int .i64 0)), none⟩, (.int .i64))]) <|
      .block 0 <|
        .loop [(3, (.int .u32)), (4, (.int .i64))] <|
          .seq (.seq (.reg [(⟨(some 5), .move (.tmp 4), none⟩, (.int .i64)),
                (⟨(some 6), .move (.tmp 0), none⟩, .any),
                (⟨(some 7), .lenS (.tmp 6), none⟩, (.int .i64)),
                (⟨(some 8), .bin .lss (.tmp 5) (.tmp 7), none⟩, .bool)]) <|
            .cond (.tmp 8)
              (.skip)
              (.exit 0)) <|
          .seq (.block 1 <|
              .reg [(⟨(some 11), .move (.tmp 3), none⟩, (.int .u32)),
                (⟨(some 12), .move (.tmp 0), none⟩, .any),
                (⟨(some 13), .move (.tmp 4), none⟩, (.int .i64)),
                (⟨(some 14), .idxSlice 1 (.tmp 12) (.tmp 13), none⟩, .ptr),
                (⟨(some 15), .load false 1 (.tmp 14), none⟩, (.int .u8)),
                (⟨(some 16), .call k_wicketref02_Push [(.tmp 11), (.tmp 15)], none⟩, (.int .u32)),
                (⟨(some 3), .move (.tmp 16), none⟩, (.int .u32))]) <|
          .reg [(⟨(some 9), .move (.tmp 4), none⟩, (.int .i64)),
            (⟨(some 10), .bin .add (.tmp 9) (.const (.int .i64 1)), none⟩, (.int .i64)),
            (⟨(some 4), .move (.tmp 10), none⟩, (.int .i64))]) <|
  .seq (.reg [(⟨(some 17), .move (.tmp 3), none⟩, (.int .u32)),
      (⟨(some 18), .bin .xor (.tmp 17) (.const (.int .u32 4294967295)), none⟩, (.int .u32)),
      (⟨(some 2), .move (.tmp 18), none⟩, (.int .u32))]) <|
  .ret
def f_wicketref02_Of_L7 (n : Nat) (u0 : Value) (v0 : Int) (v1 : Int) (h2 : Heap) : Option (((Int × Int × Unit) × Heap) ⊕ ((Int × Unit) × Heap)) :=
  (lenB u0).bind fun n3 =>
  bif (decide (v1 < (n3 : Int))) then
    ((ixB 1 u0 v1).bind fun q4 =>
    (ldT (.int .u8) h2 (some q4)).bind fun x5 =>
    (f_wicketref02_Push n v0 x5 h2).bind fun p6 =>
    some (.inl ((p6.1.1, ((IntKind.i64.wrap (v1 + 1)), ())), p6.2)))
  else
    (some (.inr ((v0, ()), h2)))
noncomputable def sf_wicketref02_Of (n : Nat) : Sf := sfOf [(k_wicketref02_Push, s_wicketref02_Push n)]
noncomputable def it_wicketref02_Of (n : Nat) : It := itOf []
def f_wicketref02_Of (n : Nat) (u0 : Value) (h : Heap) : Option ((Int × Unit) × Heap) :=
  ((loopT (fun a => f_wicketref02_Of_L7 n u0 a.1.1 a.1.2.1 a.2) n ((4294967295, (0, ())), h)) : Option ((Int × Unit) × Heap)).bind fun a8 =>
  (bitB .xor .u32 a8.1.1 .u32 4294967295).bind fun x9 =>
  some ((x9, ()), a8.2)
def rs_wicketref02_Of : Rs := [(.tmp 2, (.int .u32))]
def ps_wicketref02_Of : List Ty := [.any]
theorem e_wicketref02_Of (n : Nat) (u0 : Value) (h : Heap) : f_wicketref02_Of n u0 h = fB (sf_wicketref02_Of n) (it_wicketref02_Of n) n c2_wicketref02_Of rs_wicketref02_Of ps_wicketref02_Of (u0, ()) h := by kernel_rfl
noncomputable def s_wicketref02_Of (n : Nat) : Sf1 := mkSf ps_wicketref02_Of rs_wicketref02_Of fun a h => f_wicketref02_Of n a.1 h

/- slices.Backward[[]wicket/sector.waiting,wicket/sector.waiting] -/
def c2_slices_Backward_sector_waiting_sector_waiting : C2 :=
  .seq (.reg [(⟨(some 1), .box (.tmp 0), none⟩, .ptr),
      (⟨(some 2), .move (.const .nilFunc), none⟩, (.fn k_slices_Backward_sector_waiting_sector_waiting_1 1))]) <|
  .seq (.reg [(⟨(some 3), .makeFunc k_slices_Backward_sector_waiting_sector_waiting_1 [] [(.tmp 1)], none⟩, (.fn k_slices_Backward_sector_waiting_sector_waiting_1 1)),
      (⟨(some 2), .move (.tmp 3), none⟩, (.fn k_slices_Backward_sector_waiting_sector_waiting_1 1))]) <|
  .ret
noncomputable def sf_slices_Backward_sector_waiting_sector_waiting (n : Nat) : Sf := sfOf []
noncomputable def it_slices_Backward_sector_waiting_sector_waiting (n : Nat) : It := itOf []
def f_slices_Backward_sector_waiting_sector_waiting (n : Nat) (u0 : Value) (h : Heap) : Option ((Ptrs 1 × Unit) × Heap) :=
  bif (cellsOf u0).all isCell then
    (bnd ((Heap.new h (.cells (cellsOf u0) false 0))) fun h0 =>
    some ((((some (nwA h)), ()), ()), h0))
  else
    (none)
def rs_slices_Backward_sector_waiting_sector_waiting : Rs := [(.tmp 2, (.fn k_slices_Backward_sector_waiting_sector_waiting_1 1))]
def ps_slices_Backward_sector_waiting_sector_waiting : List Ty := [.any]
theorem e_slices_Backward_sector_waiting_sector_waiting (n : Nat) (u0 : Value) (h : Heap) : f_slices_Backward_sector_waiting_sector_waiting n u0 h = fB (sf_slices_Backward_sector_waiting_sector_waiting n) (it_slices_Backward_sector_waiting_sector_waiting n) n c2_slices_Backward_sector_waiting_sector_waiting rs_slices_Backward_sector_waiting_sector_waiting ps_slices_Backward_sector_waiting_sector_waiting (u0, ()) h := by kernel_rfl
noncomputable def s_slices_Backward_sector_waiting_sector_waiting (n : Nat) : Sf1 := mkSf ps_slices_Backward_sector_waiting_sector_waiting rs_slices_Backward_sector_waiting_sector_waiting fun a h => f_slices_Backward_sector_waiting_sector_waiting n a.1 h

/- wicket/super.Config -/
def c2_super_Config : C2 :=
  .seq (.reg [(⟨(some 1), .box (.tmp 0), none⟩, .ptr),
      (⟨(some 2), .move (.const (.int .i64 0)), none⟩, (.int .i64))]) <|
  .seq (.block 0 <|
      .seq (.cutn [(3, .bool)] <|
          .seq (.reg [(⟨(some 4), .fieldAddr 0 (.tmp 1), none⟩, .ptr),
              (⟨(some 5), .load false 1 (.tmp 4), none⟩, (.int .i64)),
              (⟨(some 6), .call k_super_within [(.tmp 5), (.const (.int .i64 64))], none⟩, .bool),
              (⟨(some 7), .un .not (.tmp 6), none⟩, .bool),
              (⟨(some 3), .move (.tmp 7), none⟩, .bool)]) <|
          .cond (.tmp 3)
            (.skip)
            (.seq (.reg [(⟨(some 8), .fieldAddr 1 (.tmp 1), none⟩, .ptr),
                (⟨(some 9), .load false 1 (.tmp 8), none⟩, (.int .i64)),
                (⟨(some 10), .bin .sub (.tmp 9) (.const (.int .i64 1)), none⟩, (.int .i64)),
                (⟨(some 11), .call k_super_within [(.tmp 10), (.const (.int .i64 63))], none⟩, .bool),
                (⟨(some 12), .un .not (.tmp 11), none⟩, .bool),
                (⟨(some 3), .move (.tmp 12), none⟩, .bool)]) <|
            .cond (.tmp 3)
              (.skip)
              (.reg [(⟨(some 13), .fieldAddr 4 (.tmp 1), none⟩, .ptr),
                (⟨(some 14), .load false 1 (.tmp 13), none⟩, (.int .i64)),
                (⟨(some 15), .call k_super_within [(.tmp 14), (.const (.int .i64 8))], none⟩, .bool),
                (⟨(some 16), .un .not (.tmp 15), none⟩, .bool),
                (⟨(some 3), .move (.tmp 16), none⟩, .bool)]))) <|
      .cond (.tmp 3)
        (.seq (.reg [(⟨(some 2), .move (.const (.int .i64 3)), none⟩, (.int .i64))]) <|
        .ret)
        (.seq (.cutn [(17, .bool)] <|
            .seq (.reg [(⟨(some 18), .fieldAddr 2 (.tmp 1), none⟩, .ptr),
                (⟨(some 19), .load false 1 (.tmp 18), none⟩, (.int .i64)),
                (⟨(some 20), .fieldAddr 0 (.tmp 1), none⟩, .ptr),
                (⟨(some 21), .load false 1 (.tmp 20), none⟩, (.int .i64)),
                (⟨(some 22), .fieldAddr 1 (.tmp 1), none⟩, .ptr),
                (⟨(some 23), .load false 1 (.tmp 22), none⟩, (.int .i64)),
                (⟨(some 24), .bin .sub (.tmp 23) (.const (.int .i64 1)), none⟩, (.int .i64)),
                (⟨(some 25), .minmax false [(.const (.int .i64 16)), (.tmp 21), (.tmp 24)], none⟩, (.int .i64)),
                (⟨(some 26), .call k_super_within [(.tmp 19), (.tmp 25)], none⟩, .bool),
                (⟨(some 27), .un .not (.tmp 26), none⟩, .bool),
                (⟨(some 17), .move (.tmp 27), none⟩, .bool)]) <|
            .cond (.tmp 17)
              (.skip)
              (.reg [(⟨(some 28), .fieldAddr 3 (.tmp 1), none⟩, .ptr),
                (⟨(some 29), .load false 1 (.tmp 28), none⟩, (.int .i64)),
                (⟨(some 30), .fieldAddr 1 (.tmp 1), none⟩, .ptr),
                (⟨(some 31), .load false 1 (.tmp 30), none⟩, (.int .i64)),
                (⟨(some 32), .call k_super_within [(.tmp 29), (.tmp 31)], none⟩, .bool),
                (⟨(some 33), .un .not (.tmp 32), none⟩, .bool),
                (⟨(some 17), .move (.tmp 33), none⟩, .bool)])) <|
        .cond (.tmp 17)
          (.seq (.reg [(⟨(some 2), .move (.const (.int .i64 3)), none⟩, (.int .i64))]) <|
          .ret)
          (.skip))) <|
  .seq (.reg [(⟨(some 2), .move (.const (.int .i64 0)), none⟩, (.int .i64))]) <|
  .ret
noncomputable def sf_super_Config (n : Nat) : Sf := sfOf [(k_super_within, s_super_within n)]
noncomputable def it_super_Config (n : Nat) : It := itOf []
def f_super_Config (n : Nat) (u0 : Value) (h : Heap) : Option ((Int × Unit) × Heap) :=
  bif (cellsOf u0).all isCell then
    (bnd ((Heap.new h (.cells (cellsOf u0) false 0))) fun h0 =>
    (((ldT (.int .i64) h0 (some (fa (nwA h) 0))).bind fun x1 =>
      (f_super_within n x1 64 h0).bind fun p2 =>
      bif (!p2.1.1) then
        (some (((!p2.1.1), ()), p2.2))
      else
        ((ldT (.int .i64) p2.2 (some (fa (nwA h) 1))).bind fun x3 =>
        (f_super_within n (IntKind.i64.wrap (x3 - 1)) 63 p2.2).bind fun p4 =>
        bif (!p4.1.1) then
          (some (((!p4.1.1), ()), p4.2))
        else
          ((ldT (.int .i64) p4.2 (some (fa (nwA h) 4))).bind fun x5 =>
          (f_super_within n x5 8 p4.2).bind fun p6 =>
          some (((!p6.1.1), ()), p6.2)))) : Option ((Bool × Unit) × Heap)).bind fun a7 =>
    bif a7.1.1 then
      (some ((3, ()), a7.2))
    else
      ((((ldT (.int .i64) a7.2 (some (fa (nwA h) 2))).bind fun x8 =>
        (ldT (.int .i64) a7.2 (some (fa (nwA h) 0))).bind fun x9 =>
        (ldT (.int .i64) a7.2 (some (fa (nwA h) 1))).bind fun x10 =>
        (f_super_within n x8 (if (IntKind.i64.wrap (x10 - 1)) < (if x9 < 16 then x9 else 16) then (IntKind.i64.wrap (x10 - 1)) else (if x9 < 16 then x9 else 16)) a7.2).bind fun p11 =>
        bif (!p11.1.1) then
          (some (((!p11.1.1), ()), p11.2))
        else
          ((ldT (.int .i64) p11.2 (some (fa (nwA h) 3))).bind fun x12 =>
          (ldT (.int .i64) p11.2 (some (fa (nwA h) 1))).bind fun x13 =>
          (f_super_within n x12 x13 p11.2).bind fun p14 =>
          some (((!p14.1.1), ()), p14.2))) : Option ((Bool × Unit) × Heap)).bind fun a15 =>
      bif a15.1.1 then
        (some ((3, ()), a15.2))
      else
        (some ((0, ()), a15.2))))
  else
    (none)
def rs_super_Config : Rs := [(.tmp 2, (.int .i64))]
def ps_super_Config : List Ty := [.any]
theorem e_super_Config (n : Nat) (u0 : Value) (h : Heap) : f_super_Config n u0 h = fB (sf_super_Config n) (it_super_Config n) n c2_super_Config rs_super_Config ps_super_Config (u0, ()) h := by kernel_rfl
noncomputable def s_super_Config (n : Nat) : Sf1 := mkSf ps_super_Config rs_super_Config fun a h => f_super_Config n a.1 h

/- wicket/home.Encode -/
def c2_home_Encode : C2 :=
  .seq (.reg [(⟨(some 3), .box (.tmp 1), none⟩, .ptr),
      (⟨(some 4), .move (.const (.slice none 0 0)), none⟩, .any),
      (⟨(some 5), .move (.const (.int .i64 0)), none⟩, (.int .i64))]) <|
  .seq (.seq (.reg [(⟨(some 9), .move (.tmp 0), none⟩, (.int .i64)),
        (⟨(some 10), .call k_home_block [(.tmp 9)], none⟩, .bool),
        (⟨(some 11), .un .not (.tmp 10), none⟩, .bool)]) <|
    .cond (.tmp 11)
      (.seq (.reg [(⟨(some 4), .move (.const (.slice none 0 0)), none⟩, .any),
          (⟨(some 5), .move (.const (.int .i64 51)), none⟩, (.int .i64))]) <|
      .ret)
      (.skip)) <|
  .seq (.reg [(⟨(some 12), .buildSlice 4 1 (List.replicate 4 (.int .u8 0)) [(0, 1, (.const (.int .u8 72))), (1, 1, (.const (.int .u8 79))), (2, 1, (.const (.int .u8 77))), (3, 1, (.const (.int .u8 69)))], none⟩, .any),
      (⟨(some 13), .markS (.tmp 12), none⟩, .any),
      (⟨(some 14), .move (.tmp 0), none⟩, (.int .i64)),
      (⟨(some 15), .conv .u8 (.tmp 14), none⟩, (.int .u8)),
      (⟨(some 16), .buildSlice 2 1 [(.int .u8 0), (.int .u8 0)] [(0, 1, (.const (.int .u8 1))), (1, 1, (.tmp 15))], none⟩, .any),
      (⟨(some 17), .buildSlice 2 1 [(.slice none 0 0), (.slice none 0 0)] [(0, 1, (.tmp 13)), (1, 1, (.tmp 16))], none⟩, .any),
      (⟨(some 18), .call k_octet_Join [(.tmp 17)], none⟩, .any),
      (⟨(some 6), .move (.tmp 18), none⟩, .any)]) <|
  .seq (.regd [(⟨0, [], false, ⟨(some 19), .move (.tmp 6), none⟩⟩, .any),
      (⟨1, [], false, ⟨(some 20), .move (.tmp 6), none⟩⟩, .any),
      (⟨2, [1], false, ⟨(some 21), .lenS (.tmp 20), none⟩⟩, (.int .i64)),
      (⟨3, [2, 1], false, ⟨(some 22), .bin .sub (.const (.int .i64 28)) (.tmp 21), none⟩⟩, (.int .i64)),
      (⟨4, [3, 2, 1], false, ⟨(some 23), .makeSlice 1 1 [(.int .u8 0)] (.tmp 22) (.tmp 22), none⟩⟩, .any),
      (⟨5, [], false, ⟨(some 24), .sliceArr 32 1 (.tmp 3) none none none, none⟩⟩, .any),
      (⟨6, [0, 4, 5, 3, 2, 1], false, ⟨(some 25), .buildSlice 3 1 [(.slice none 0 0), (.slice none 0 0), (.slice none 0 0)] [(0, 1, (.tmp 19)), (1, 1, (.tmp 23)), (2, 1, (.tmp 24))], none⟩⟩, .any),
      (⟨7, [6, 0, 4, 5, 3, 2, 1], true, ⟨(some 26), .call k_octet_Join [(.tmp 25)], none⟩⟩, .any),
      (⟨8, [7, 0, 1, 2, 3, 4, 5, 6], true, ⟨(some 6), .move (.tmp 26), none⟩⟩, .any)]) <|
  .seq (.reg [(⟨(some 28), .move (.tmp 6), none⟩, .any),
      (⟨(some 29), .buildSlice 1 1 [(.slice none 0 0)] [(0, 1, (.tmp 28))], none⟩, .any),
      (⟨(some 30), .call k_sum_Of [(.tmp 29)], none⟩, (.int .u32)),
      (⟨(some 31), .conv .u64 (.tmp 30), none⟩, (.int .u64)),
      (⟨(some 32), .call k_octet_Put [(.tmp 31), (.const (.int .i64 4))], none⟩, .any),
      (⟨(some 27), .move (.tmp 32), none⟩, .any),
      (⟨(some 33), .extract (.tmp 27) 0, none⟩, .any),
      (⟨(some 34), .extract (.tmp 27) 1, none⟩, (.int .i64)),
      (⟨(some 7), .move (.tmp 33), none⟩, .any),
      (⟨(some 8), .move (.tmp 34), none⟩, (.int .i64))]) <|
  .seq (.reg [(⟨(some 35), .move (.tmp 6), none⟩, .any),
      (⟨(some 36), .move (.tmp 7), none⟩, .any),
      (⟨(some 37), .buildSlice 2 1 [(.slice none 0 0), (.slice none 0 0)] [(0, 1, (.tmp 35)), (1, 1, (.tmp 36))], none⟩, .any),
      (⟨(some 38), .call k_octet_Join [(.tmp 37)], none⟩, .any),
      (⟨(some 39), .move (.tmp 8), none⟩, (.int .i64)),
      (⟨(some 4), .move (.tmp 38), none⟩, .any),
      (⟨(some 5), .move (.tmp 39), none⟩, (.int .i64))]) <|
  .ret
noncomputable def sf_home_Encode (n : Nat) : Sf := sfOf [(k_home_block, s_home_block n), (k_octet_Join, s_octet_Join n), (k_sum_Of, s_sum_Of n), (k_octet_Put, s_octet_Put n)]
noncomputable def it_home_Encode (n : Nat) : It := itOf []
def f_home_Encode (n : Nat) (u0 : Int) (u1 : Value) (h : Heap) : Option ((Value × Int × Unit) × Heap) :=
  bif (cellsOf u1).all isCell then
    (bnd ((Heap.new h (.cells (cellsOf u1) false 0))) fun h0 =>
    (f_home_block n u0 h0).bind fun p1 =>
    bif (!p1.1.1) then
      (some (((.slice none 0 0), (51, ())), p1.2))
    else
      ((fillL (List.replicate 4 (.int .u8 0)) [(0, 1, (.int .u8 72)), (1, 1, (.int .u8 79)), (2, 1, (.int .u8 77)), (3, 1, (.int .u8 69))]).bind fun cs2 =>
      bnd ((Heap.new p1.2 (.cells cs2 false 1))) fun h3 =>
      (markSK h3 (.slice (some ⟨Heap.next p1.2, 0, some 0⟩) 4 4)).bind fun p4 =>
      (fillL [(.int .u8 0), (.int .u8 0)] [(0, 1, (.int .u8 1)), (1, 1, (.int .u8 (IntKind.u8.wrap (u0))))]).bind fun cs5 =>
      bnd ((Heap.new p4.2 (.cells cs5 false 1))) fun h6 =>
      (fillL [(.slice none 0 0), (.slice none 0 0)] [(0, 1, p4.1), (1, 1, (.slice (some ⟨Heap.next p4.2, 0, some 0⟩) 2 2))]).bind fun cs7 =>
      bnd ((Heap.new h6 (.cells cs7 false 1))) fun h8 =>
      (f_octet_Join n (.slice (some ⟨Heap.next h6, 0, some 0⟩) 2 2) h8).bind fun p9 =>
      (lenB p9.1.1).bind fun n10 =>
      (mkSl (Heap.next p9.2) 1 1 [(.int .u8 0)] (.int .i64 (IntKind.i64.wrap (28 - (n10 : Int)))) (.int .i64 (IntKind.i64.wrap (28 - (n10 : Int))))).bind fun p11 =>
      bnd ((Heap.new p9.2 (p11.2))) fun h12 =>
      (sliceArrK (Heap.dropAll h12 ((Heap.next p9.2) :: [])) 32 1 none none (.pointer (some (nwA h)))).bind fun p13 =>
      (fillL [(.slice none 0 0), (.slice none 0 0), (.slice none 0 0)] [(0, 1, p9.1.1), (1, 1, p11.1), (2, 1, p13.1)]).bind fun cs14 =>
      bnd ((Heap.new h12 (.cells cs14 false 1))) fun h15 =>
      (f_octet_Join n (.slice (some ⟨Heap.next h12, 0, some 0⟩) 3 3) h15).bind fun p16 =>
      (fillL [(.slice none 0 0)] [(0, 1, p16.1.1)]).bind fun cs17 =>
      bnd ((Heap.new p16.2 (.cells cs17 false 1))) fun h18 =>
      (f_sum_Of n (.slice (some ⟨Heap.next p16.2, 0, some 0⟩) 1 1) h18).bind fun p19 =>
      (f_octet_Put n (IntKind.u64.wrap (p19.1.1)) 4 p19.2).bind fun p20 =>
      (fillL [(.slice none 0 0), (.slice none 0 0)] [(0, 1, p16.1.1), (1, 1, p20.1.1)]).bind fun cs21 =>
      bnd ((Heap.new p20.2 (.cells cs21 false 1))) fun h22 =>
      (f_octet_Join n (.slice (some ⟨Heap.next p20.2, 0, some 0⟩) 2 2) h22).bind fun p23 =>
      bif !isTuple p23.1.1 then
        (some ((p23.1.1, (p20.1.2.1, ())), p23.2))
      else
        (none)))
  else
    (none)
def rs_home_Encode : Rs := [(.tmp 4, .any), (.tmp 5, (.int .i64))]
def ps_home_Encode : List Ty := [(.int .i64), .any]
theorem e_home_Encode (n : Nat) (u0 : Int) (u1 : Value) (h : Heap) : f_home_Encode n u0 u1 h = fB (sf_home_Encode n) (it_home_Encode n) n c2_home_Encode rs_home_Encode ps_home_Encode (u0, (u1, ())) h := by kernel_rfl
noncomputable def s_home_Encode (n : Nat) : Sf1 := mkSf ps_home_Encode rs_home_Encode fun a h => f_home_Encode n a.1 a.2.1 h

/- wicket/home.Decode -/
def c2_home_Decode : C2 :=
  .seq (.reg [(⟨(some 4), .alloc (List.replicate 32 (.int .u8 0)), none⟩, .ptr),
      (⟨(some 5), .move (.const (.int .i64 0)), none⟩, (.int .i64))]) <|
  .seq (.block 0 <|
      .seq (.reg [(⟨(some 10), .move (.tmp 1), none⟩, (.int .i64)),
          (⟨(some 11), .call k_home_block [(.tmp 10)], none⟩, .bool),
          (⟨(some 12), .un .not (.tmp 11), none⟩, .bool),
          (⟨(some 9), .move (.tmp 12), none⟩, .bool)]) <|
      .cond (.tmp 9)
        (.seq (.reg [(⟨(some 13), .build (List.replicate 32 (.int .u8 0)) [], none⟩, .any),
            (⟨none, .store 32 (.tmp 4) (.tmp 13), none⟩, .any),
            (⟨(some 5), .move (.const (.int .i64 51)), none⟩, (.int .i64))]) <|
        .ret)
        (.seq (.reg [(⟨(some 15), .move (.tmp 0), none⟩, .any),
            (⟨(some 16), .lenS (.tmp 15), none⟩, (.int .i64)),
            (⟨(some 17), .bin .neq (.tmp 16) (.const (.int .i64 64)), none⟩, .bool),
            (⟨(some 14), .move (.tmp 17), none⟩, .bool)]) <|
        .cond (.tmp 14)
          (.seq (.reg [(⟨(some 18), .build (List.replicate 32 (.int .u8 0)) [], none⟩, .any),
              (⟨none, .store 32 (.tmp 4) (.tmp 18), none⟩, .any),
              (⟨(some 5), .move (.const (.int .i64 2)), none⟩, (.int .i64))]) <|
          .ret)
          (.skip))) <|
  .seq (.reg [(⟨(some 19), .move (.tmp 0), none⟩, .any),
      (⟨(some 20), .slice 1 (.tmp 19) (some (.const (.int .i64 28))) (some (.const (.int .i64 60))) none, none⟩, .any),
      (⟨(some 21), .arrAt 32 (.tmp 20), none⟩, .ptr),
      (⟨(some 22), .load true 32 (.tmp 21), none⟩, .any),
      (⟨(some 6), .alloc (List.replicate 32 (.int .u8 0)), none⟩, .ptr),
      (⟨none, .store 32 (.tmp 6) (.tmp 22), none⟩, .any)]) <|
  .seq (.reg [(⟨(some 24), .move (.tmp 1), none⟩, (.int .i64)),
      (⟨(some 25), .load true 32 (.tmp 6), none⟩, .any),
      (⟨(some 26), .call k_home_Encode [(.tmp 24), (.tmp 25)], none⟩, .any),
      (⟨(some 23), .move (.tmp 26), none⟩, .any),
      (⟨(some 27), .extract (.tmp 23) 0, none⟩, .any),
      (⟨(some 28), .extract (.tmp 23) 1, none⟩, (.int .i64)),
      (⟨(some 7), .move (.tmp 27), none⟩, .any),
      (⟨(some 8), .move (.tmp 28), none⟩, (.int .i64))]) <|
  .seq (.seq (.cutn [(39, .bool)] <|
        .regd [(⟨0, [], false, ⟨(some 29), .move (.tmp 8), none⟩⟩, (.int .i64)),
          (⟨1, [0], false, ⟨(some 30), .bin .neq (.tmp 29) (.const (.int .i64 0)), none⟩⟩, .bool),
          (⟨2, [1, 0], false, ⟨(some 31), .move (.tmp 30), none⟩⟩, .bool),
          (⟨3, [2, 1, 0], false, ⟨(some 32), .move (.tmp 7), some (31, false)⟩⟩, .any),
          (⟨4, [3, 2, 1, 0], false, ⟨(some 33), .arrAt 64 (.tmp 32), some (31, false)⟩⟩, .ptr),
          (⟨5, [4, 2, 3, 1, 0], false, ⟨(some 34), .load true 64 (.tmp 33), some (31, false)⟩⟩, .any),
          (⟨6, [2, 1, 0], false, ⟨(some 35), .move (.tmp 0), some (31, false)⟩⟩, .any),
          (⟨7, [6, 2, 1, 0], false, ⟨(some 36), .arrAt 64 (.tmp 35), some (31, false)⟩⟩, .ptr),
          (⟨8, [7, 2, 6, 1, 0], false, ⟨(some 37), .load true 64 (.tmp 36), some (31, false)⟩⟩, .any),
          (⟨9, [5, 8, 2, 4, 3, 1, 0, 7, 6], false, ⟨(some 38), .eqv true (.agg (List.replicate 64 false)) (.tmp 34) (.tmp 37), some (31, false)⟩⟩, .bool),
          (⟨10, [2, 9, 1, 0, 5, 8, 4, 3, 7, 6], false, ⟨(some 39), .pick (.tmp 31) (.const (.bool true)) (.tmp 38), none⟩⟩, .bool)]) <|
    .cond (.tmp 39)
      (.seq (.reg [(⟨(some 40), .build (List.replicate 32 (.int .u8 0)) [], none⟩, .any),
          (⟨none, .store 32 (.tmp 4) (.tmp 40), none⟩, .any),
          (⟨(some 5), .move (.const (.int .i64 80)), none⟩, (.int .i64))]) <|
      .ret)
      (.skip)) <|
  .seq (.reg [(⟨(some 41), .load true 32 (.tmp 6), none⟩, .any),
      (⟨none, .store 32 (.tmp 4) (.tmp 41), none⟩, .any),
      (⟨(some 5), .move (.const (.int .i64 0)), none⟩, (.int .i64))]) <|
  .ret
noncomputable def sf_home_Decode (n : Nat) : Sf := sfOf [(k_home_block, s_home_block n), (k_home_Encode, s_home_Encode n)]
noncomputable def it_home_Decode (n : Nat) : It := itOf []
def f_home_Decode (n : Nat) (u0 : Value) (u1 : Int) (h : Heap) : Option ((Value × Int × Unit) × Heap) :=
  bnd ((Heap.new h (.cells (List.replicate 32 (.int .u8 0)) false 0))) fun h0 =>
  (f_home_block n u1 h0).bind fun p1 =>
  bif (!p1.1.1) then
    ((fillL (List.replicate 32 (.int .u8 0)) []).bind fun cs2 =>
    (stB 32 (.agg ⟨cs2⟩) p1.2 (some (nwA h))).bind fun h3 =>
    (ldA 32 h3 (some (nwA h))).bind fun cs4 =>
    some (((.agg ⟨cs4⟩), (51, ())), h3))
  else
    ((lenB u0).bind fun n5 =>
    bif (!decide ((n5 : Int) = 64)) then
      ((fillL (List.replicate 32 (.int .u8 0)) []).bind fun cs6 =>
      (stB 32 (.agg ⟨cs6⟩) p1.2 (some (nwA h))).bind fun h7 =>
      (ldA 32 h7 (some (nwA h))).bind fun cs8 =>
      some (((.agg ⟨cs8⟩), (2, ())), h7))
    else
      ((sliceK p1.2 1 (some (.int .i64 28)) (some (.int .i64 60)) none u0).bind fun p9 =>
      (arrB p1.2 32 p9.1).bind fun q10 =>
      (ldA 32 p1.2 q10).bind fun cs11 =>
      bnd ((Heap.new p1.2 (.cells (List.replicate 32 (.int .u8 0)) false 0))) fun h12 =>
      (stB 32 (.agg ⟨cs11⟩) h12 (some (nwA p1.2))).bind fun h13 =>
      (ldA 32 h13 (some (nwA p1.2))).bind fun cs14 =>
      (f_home_Encode n u1 (.agg ⟨cs14⟩) h13).bind fun p15 =>
      ((bif (!decide (p15.1.2.1 = 0)) then
          (some ((true, ()), p15.2))
        else
          ((arrB p15.2 64 p15.1.1).bind fun q16 =>
          (ldA 64 p15.2 q16).bind fun cs17 =>
          (arrB p15.2 64 u0).bind fun q18 =>
          (ldA 64 p15.2 q18).bind fun cs19 =>
          (eqVals p15.2 (.agg (List.replicate 64 false)) (.agg ⟨cs17⟩) (.agg ⟨cs19⟩)).bind fun b20 =>
          some (((!b20), ()), p15.2))) : Option ((Bool × Unit) × Heap)).bind fun a21 =>
      bif a21.1.1 then
        ((fillL (List.replicate 32 (.int .u8 0)) []).bind fun cs22 =>
        (stB 32 (.agg ⟨cs22⟩) a21.2 (some (nwA h))).bind fun h23 =>
        (ldA 32 h23 (some (nwA h))).bind fun cs24 =>
        some (((.agg ⟨cs24⟩), (80, ())), h23))
      else
        ((ldA 32 a21.2 (some (nwA p1.2))).bind fun cs25 =>
        (stB 32 (.agg ⟨cs25⟩) a21.2 (some (nwA h))).bind fun h26 =>
        (ldA 32 h26 (some (nwA h))).bind fun cs27 =>
        some (((.agg ⟨cs27⟩), (0, ())), h26))))
def rs_home_Decode : Rs := [(.cell true 32 4, .any), (.tmp 5, (.int .i64))]
def ps_home_Decode : List Ty := [.any, (.int .i64)]
theorem e_home_Decode (n : Nat) (u0 : Value) (u1 : Int) (h : Heap) : f_home_Decode n u0 u1 h = fB (sf_home_Decode n) (it_home_Decode n) n c2_home_Decode rs_home_Decode ps_home_Decode (u0, (u1, ())) h := by kernel_rfl
noncomputable def s_home_Decode (n : Nat) : Sf1 := mkSf ps_home_Decode rs_home_Decode fun a h => f_home_Decode n a.1 a.2.1 h

/- wicket/wicketref08.Summed -/
def c2_wicketref08_Summed : C2 :=
  .seq (.reg [(⟨(some 2), .move (.const (.slice none 0 0)), none⟩, .any)]) <|
  .seq (.reg [(⟨(some 3), .buildSlice 0 1 [] [], none⟩, .any),
      (⟨(some 4), .move (.tmp 0), none⟩, .any),
      (⟨(some 5), .append 1 1 (.tmp 3) (.tmp 4), none⟩, .any),
      (⟨(some 6), .move (.tmp 0), none⟩, .any),
      (⟨(some 7), .call k_wicketref02_Of [(.tmp 6)], none⟩, (.int .u32)),
      (⟨(some 8), .conv .u64 (.tmp 7), none⟩, (.int .u64)),
      (⟨(some 9), .call k_wicketref08_number [(.tmp 8), (.const (.int .i64 4))], none⟩, .any),
      (⟨(some 10), .append 1 1 (.tmp 5) (.tmp 9), none⟩, .any),
      (⟨(some 2), .move (.tmp 10), none⟩, .any)]) <|
  .ret
noncomputable def sf_wicketref08_Summed (n : Nat) : Sf := sfOf [(k_wicketref02_Of, s_wicketref02_Of n), (k_wicketref08_number, s_wicketref08_number n)]
noncomputable def it_wicketref08_Summed (n : Nat) : It := itOf []
def f_wicketref08_Summed (n : Nat) (u0 : Value) (h : Heap) : Option ((Value × Unit) × Heap) :=
  (fillL [] []).bind fun cs0 =>
  bnd ((Heap.new h (.cells cs0 false 1))) fun h1 =>
  (appendK h1 1 1 (.slice (some ⟨Heap.next h, 0, some 0⟩) 0 0) u0).bind fun p2 =>
  (f_wicketref02_Of n u0 p2.2).bind fun p3 =>
  (f_wicketref08_number n (IntKind.u64.wrap (p3.1.1)) 4 p3.2).bind fun p4 =>
  (appendK p4.2 1 1 p2.1 p4.1.1).bind fun p5 =>
  bif !isTuple p5.1 then
    (some ((p5.1, ()), p5.2))
  else
    (none)
def rs_wicketref08_Summed : Rs := [(.tmp 2, .any)]
def ps_wicketref08_Summed : List Ty := [.any]
theorem e_wicketref08_Summed (n : Nat) (u0 : Value) (h : Heap) : f_wicketref08_Summed n u0 h = fB (sf_wicketref08_Summed n) (it_wicketref08_Summed n) n c2_wicketref08_Summed rs_wicketref08_Summed ps_wicketref08_Summed (u0, ()) h := by kernel_rfl
noncomputable def s_wicketref08_Summed (n : Nat) : Sf1 := mkSf ps_wicketref08_Summed rs_wicketref08_Summed fun a h => f_wicketref08_Summed n a.1 h

/- (*wicket/sector.Disk).Read -/
def c2_sector_Disk_Read : C2 :=
  .seq (.reg [(⟨(some 3), .box (.tmp 1), none⟩, .ptr),
      (⟨(some 4), .alloc [(.slice none 0 0)], none⟩, .ptr),
      (⟨(some 5), .alloc [(.int .i64 0)], none⟩, .ptr)]) <|
  .seq (.seq (.reg [(⟨(some 9), .move (.tmp 0), none⟩, .ptr),
        (⟨(some 10), .load false 1 (.tmp 3), none⟩, (.int .i64)),
        (⟨(some 11), .call k_sector_Disk_asked [(.tmp 9), (.tmp 10)], none⟩, (.int .i64)),
        (⟨(some 6), .move (.tmp 11), none⟩, (.int .i64))]) <|
    .seq (.reg [(⟨(some 12), .move (.tmp 6), none⟩, (.int .i64)),
        (⟨(some 13), .bin .neq (.tmp 12) (.const (.int .i64 0)), none⟩, .bool)]) <|
    .cond (.tmp 13)
      (.seq (.reg [(⟨(some 14), .move (.tmp 6), none⟩, (.int .i64)),
          (⟨none, .store 1 (.tmp 4) (.const (.slice none 0 0)), none⟩, .any),
          (⟨none, .store 1 (.tmp 5) (.tmp 14), none⟩, .any)]) <|
      .ret)
      (.skip)) <|
  .seq (.seq (.reg [(⟨(some 15), .move (.tmp 0), none⟩, .ptr),
        (⟨(some 16), .nilCheck (.tmp 15), none⟩, .ptr),
        (⟨(some 17), .fieldAddr 1 (.tmp 16), none⟩, .ptr),
        (⟨(some 18), .load false 1 (.tmp 17), none⟩, .any),
        (⟨(some 19), .call k_slices_Backward_sector_waiting_sector_waiting [(.tmp 18)], none⟩, (.fn k_slices_Backward_sector_waiting_sector_waiting_1 1))]) <|
    .block 0 <|
      .range (.tmp 19) [20, 21] [.ret]
        (.reg [(⟨(some 8), .alloc [(.int .i64 0), (.int .u8 0), (.int .u8 0), (.int .u8 0), (.int .u8 0), (.int .u8 0), (.int .u8 0), (.int .u8 0), (.int .u8 0), (.int .u8 0), (.int .u8 0), (.int .u8 0), (.int .u8 0), (.int .u8 0), (.int .u8 0), (.int .u8 0), (.int .u8 0), (.int .u8 0), (.int .u8 0), (.int .u8 0), (.int .u8 0), (.int .u8 0), (.int .u8 0), (.int .u8 0), (.int .u8 0), (.int .u8 0), (.int .u8 0), (.int .u8 0), (.int .u8 0), (.int .u8 0), (.int .u8 0), (.int .u8 0), (.int .u8 0), (.int .u8 0), (.int .u8 0), (.int .u8 0), (.int .u8 0), (.int .u8 0), (.int .u8 0), (.int .u8 0), (.int .u8 0), (.int .u8 0), (.int .u8 0), (.int .u8 0), (.int .u8 0), (.int .u8 0), (.int .u8 0), (.int .u8 0), (.int .u8 0), (.int .u8 0), (.int .u8 0), (.int .u8 0), (.int .u8 0), (.int .u8 0), (.int .u8 0), (.int .u8 0), (.int .u8 0), (.int .u8 0), (.int .u8 0), (.int .u8 0), (.int .u8 0), (.int .u8 0), (.int .u8 0), (.int .u8 0), (.int .u8 0)], none⟩, .ptr),
          (⟨none, .store 65 (.tmp 8) (.tmp 21), none⟩, .any)])
        (.block 1 <|
          .seq (.reg [(⟨(some 22), .fieldAddr 0 (.tmp 8), none⟩, .ptr),
              (⟨(some 23), .load false 1 (.tmp 22), none⟩, (.int .i64)),
              (⟨(some 24), .load false 1 (.tmp 3), none⟩, (.int .i64)),
              (⟨(some 25), .bin .eql (.tmp 23) (.tmp 24), none⟩, .bool)]) <|
          .cond (.tmp 25)
            (.seq (.reg [(⟨(some 26), .fieldAddr 1 (.tmp 8), none⟩, .ptr),
                (⟨(some 27), .sliceArr 64 1 (.tmp 26) none none none, none⟩, .any),
                (⟨(some 28), .call k_slices_Clone_byte_byte [(.tmp 27)], none⟩, .any),
                (⟨none, .store 1 (.tmp 4) (.tmp 28), none⟩, .any),
                (⟨none, .store 1 (.tmp 5) (.const (.int .i64 0)), none⟩, .any)]) <|
            .ret)
            (.skip))) <|
  .seq (.regd [(⟨0, [], false, ⟨(some 29), .move (.tmp 0), none⟩⟩, .ptr),
      (⟨1, [0], false, ⟨(some 30), .nilCheck (.tmp 29), none⟩⟩, .ptr),
      (⟨2, [1, 0], false, ⟨(some 31), .fieldAddr 0 (.tmp 30), none⟩⟩, .ptr),
      (⟨3, [2, 1, 0], false, ⟨(some 32), .load false 1 (.tmp 31), none⟩⟩, .any),
      (⟨4, [], false, ⟨(some 33), .load false 1 (.tmp 3), none⟩⟩, (.int .i64)),
      (⟨5, [3, 4, 2, 1, 0], false, ⟨(some 34), .idxSlice 64 (.tmp 32) (.tmp 33), none⟩⟩, .ptr),
      (⟨6, [5, 3, 4, 2, 1, 0], false, ⟨(some 35), .sliceArr 64 1 (.tmp 34) none none none, none⟩⟩, .any),
      (⟨7, [6, 5, 3, 4, 2, 1, 0], true, ⟨(some 36), .call k_slices_Clone_byte_byte [(.tmp 35)], none⟩⟩, .any),
      (⟨8, [7, 0, 1, 2, 3, 4, 5, 6], true, ⟨none, .store 1 (.tmp 4) (.tmp 36), none⟩⟩, .any),
      (⟨9, [8, 0, 1, 2, 3, 4, 5, 6, 7], true, ⟨none, .store 1 (.tmp 5) (.const (.int .i64 0)), none⟩⟩, .any)]) <|
  .ret
def f_sector_Disk_Read_B23 (n : Nat) (h : Heap) (h0 : Heap) (h1 : Heap) (y12 : Int) (y13 : Value) (v14 : (Heap × Nat)) : Option (Bool × (Heap × Nat)) :=
  bif Nat.beq v14.2 0 then
    (bnd ((Heap.new v14.1 (.cells [(.int .i64 0), (.int .u8 0), (.int .u8 0), (.int .u8 0), (.int .u8 0), (.int .u8 0), (.int .u8 0), (.int .u8 0), (.int .u8 0), (.int .u8 0), (.int .u8 0), (.int .u8 0), (.int .u8 0), (.int .u8 0), (.int .u8 0), (.int .u8 0), (.int .u8 0), (.int .u8 0), (.int .u8 0), (.int .u8 0), (.int .u8 0), (.int .u8 0), (.int .u8 0), (.int .u8 0), (.int .u8 0), (.int .u8 0), (.int .u8 0), (.int .u8 0), (.int .u8 0), (.int .u8 0), (.int .u8 0), (.int .u8 0), (.int .u8 0), (.int .u8 0), (.int .u8 0), (.int .u8 0), (.int .u8 0), (.int .u8 0), (.int .u8 0), (.int .u8 0), (.int .u8 0), (.int .u8 0), (.int .u8 0), (.int .u8 0), (.int .u8 0), (.int .u8 0), (.int .u8 0), (.int .u8 0), (.int .u8 0), (.int .u8 0), (.int .u8 0), (.int .u8 0), (.int .u8 0), (.int .u8 0), (.int .u8 0), (.int .u8 0), (.int .u8 0), (.int .u8 0), (.int .u8 0), (.int .u8 0), (.int .u8 0), (.int .u8 0), (.int .u8 0), (.int .u8 0), (.int .u8 0)] false 0))) fun h15 =>
    (stB 65 y13 h15 (some (nwA v14.1))).bind fun h16 =>
    (ldT (.int .i64) h16 (some (fa (nwA v14.1) 0))).bind fun x17 =>
    (ldT (.int .i64) h16 (some (nwA h))).bind fun x18 =>
    bif (decide (x17 = x18)) then
      ((sliceArrK h16 64 1 none none (.pointer (some (fa (nwA v14.1) 1)))).bind fun p19 =>
      (f_slices_Clone_byte_byte n p19.1 h16).bind fun p20 =>
      (stB 1 p20.1.1 p20.2 (some (nwA h0))).bind fun h21 =>
      (stB 1 (.int .i64 0) h21 (some (nwA h1))).bind fun h22 =>
      some (false, (h22, 1)))
    else
      (some (true, (h16, 0))))
  else none
noncomputable def sf_sector_Disk_Read (n : Nat) : Sf := sfOf [(k_sector_Disk_asked, s_sector_Disk_asked n), (k_slices_Backward_sector_waiting_sector_waiting, s_slices_Backward_sector_waiting_sector_waiting n), (k_slices_Clone_byte_byte, s_slices_Clone_byte_byte n)]
noncomputable def it_sector_Disk_Read (n : Nat) : It := itOf [(k_slices_Backward_sector_waiting_sector_waiting_1, i_slices_Backward_sector_waiting_sector_waiting_1 n)]
def f_sector_Disk_Read (n : Nat) (u0 : Option Addr) (u1 : Int) (h : Heap) : Option ((Value × Int × Unit) × Heap) :=
  bnd ((Heap.new h (.cells [(.int .i64 u1)] false 0))) fun h0 =>
  bnd ((Heap.new h0 (.cells [(.slice none 0 0)] false 0))) fun h1 =>
  bnd ((Heap.new h1 (.cells [(.int .i64 0)] false 0))) fun h2 =>
  (ldT (.int .i64) h2 (some (nwA h))).bind fun x3 =>
  (f_sector_Disk_asked n u0 x3 h2).bind fun p4 =>
  bif (!decide (p4.1.1 = 0)) then
    ((stB 1 (.slice none 0 0) p4.2 (some (nwA h0))).bind fun h5 =>
    (stB 1 (.int .i64 p4.1.1) h5 (some (nwA h1))).bind fun h6 =>
    (ldT .any h6 (some (nwA h0))).bind fun x7 =>
    bif !isTuple x7 then
      ((ldT (.int .i64) h6 (some (nwA h1))).bind fun x8 =>
      some ((x7, (x8, ())), h6))
    else
      (none))
  else
    ((u0).bind fun q9 =>
    (ldT .any p4.2 (some (fa q9 1))).bind fun x10 =>
    (f_slices_Backward_sector_waiting_sector_waiting n x10 p4.2).bind fun p11 =>
    (f_slices_Backward_sector_waiting_sector_waiting_1 (V := (Heap × Nat)) (fun v => v.1) (fun v h => (h, v.2)) (fun a v => f_sector_Disk_Read_B23 n h h0 h1 a.1 a.2.1 v) n p11.1.1.1 ((Heap.hole (Heap.hole p11.2)), 0)).bind fun v24 =>
    bif Nat.beq v24.2 0 then
      ((u0).bind fun q25 =>
      (ldT .any v24.1 (some (fa q25 0))).bind fun x26 =>
      (ldT (.int .i64) v24.1 (some (nwA h))).bind fun x27 =>
      (ixB 64 x26 x27).bind fun q28 =>
      (sliceArrK v24.1 64 1 none none (.pointer (some q28))).bind fun p29 =>
      (f_slices_Clone_byte_byte n p29.1 v24.1).bind fun p30 =>
      (stB 1 p30.1.1 p30.2 (some (nwA h0))).bind fun h31 =>
      (stB 1 (.int .i64 0) h31 (some (nwA h1))).bind fun h32 =>
      (ldT .any h32 (some (nwA h0))).bind fun x33 =>
      bif !isTuple x33 then
        ((ldT (.int .i64) h32 (some (nwA h1))).bind fun x34 =>
        some ((x33, (x34, ())), h32))
      else
        (none))
    else
      (bif Nat.beq v24.2 1 then
        ((ldT .any v24.1 (some (nwA h0))).bind fun x35 =>
        bif !isTuple x35 then
          ((ldT (.int .i64) v24.1 (some (nwA h1))).bind fun x36 =>
          some ((x35, (x36, ())), v24.1))
        else
          (none))
      else
        (none)))
def rs_sector_Disk_Read : Rs := [(.cell false 1 4, .any), (.cell false 1 5, (.int .i64))]
def ps_sector_Disk_Read : List Ty := [.ptr, (.int .i64)]
theorem e_sector_Disk_Read (n : Nat) (u0 : Option Addr) (u1 : Int) (h : Heap) : f_sector_Disk_Read n u0 u1 h = fB (sf_sector_Disk_Read n) (it_sector_Disk_Read n) n c2_sector_Disk_Read rs_sector_Disk_Read ps_sector_Disk_Read (u0, (u1, ())) h := by kernel_rfl
noncomputable def s_sector_Disk_Read (n : Nat) : Sf1 := mkSf ps_sector_Disk_Read rs_sector_Disk_Read fun a h => f_sector_Disk_Read n a.1 a.2.1 h

/- wicket/super.Check -/
def c2_super_Check : C2 :=
  .seq (.reg [(⟨(some 1), .box (.tmp 0), none⟩, .ptr),
      (⟨(some 2), .move (.const (.int .i64 0)), none⟩, (.int .i64))]) <|
  .seq (.seq (.reg [(⟨(some 4), .fieldAddr 0 (.tmp 1), none⟩, .ptr),
        (⟨(some 5), .load true 5 (.tmp 4), none⟩, .any),
        (⟨(some 6), .call k_super_Config [(.tmp 5)], none⟩, (.int .i64)),
        (⟨(some 3), .move (.tmp 6), none⟩, (.int .i64))]) <|
    .seq (.reg [(⟨(some 7), .move (.tmp 3), none⟩, (.int .i64)),
        (⟨(some 8), .bin .neq (.tmp 7) (.const (.int .i64 0)), none⟩, .bool)]) <|
    .cond (.tmp 8)
      (.seq (.reg [(⟨(some 9), .move (.tmp 3), none⟩, (.int .i64)),
          (⟨(some 2), .move (.tmp 9), none⟩, (.int .i64))]) <|
      .ret)
      (.skip)) <|
  .seq (.seq (.cutn [(22, .bool)] <|
        .reg [(⟨(some 10), .fieldAddr 5 (.tmp 1), none⟩, .ptr),
          (⟨(some 11), .load false 1 (.tmp 10), none⟩, (.int .u64)),
          (⟨(some 12), .bin .gtr (.tmp 11) (.const (.int .u64 4611686018427387904)), none⟩, .bool),
          (⟨(some 13), .move (.tmp 12), none⟩, .bool),
          (⟨(some 14), .fieldAddr 6 (.tmp 1), some (13, false)⟩, .ptr),
          (⟨(some 15), .load false 1 (.tmp 14), some (13, false)⟩, (.int .u64)),
          (⟨(some 16), .bin .lss (.tmp 15) (.const (.int .u64 1)), some (13, false)⟩, .bool),
          (⟨(some 17), .pick (.tmp 13) (.const (.bool true)) (.tmp 16), none⟩, .bool),
          (⟨(some 18), .move (.tmp 17), none⟩, .bool),
          (⟨(some 19), .fieldAddr 6 (.tmp 1), some (18, false)⟩, .ptr),
          (⟨(some 20), .load false 1 (.tmp 19), some (18, false)⟩, (.int .u64)),
          (⟨(some 21), .bin .gtr (.tmp 20) (.const (.int .u64 4611686018427387904)), some (18, false)⟩, .bool),
          (⟨(some 22), .pick (.tmp 18) (.const (.bool true)) (.tmp 21), none⟩, .bool)]) <|
    .cond (.tmp 22)
      (.seq (.reg [(⟨(some 2), .move (.const (.int .i64 70)), none⟩, (.int .i64))]) <|
      .ret)
      (.skip)) <|
  .seq (.reg [(⟨(some 2), .move (.const (.int .i64 0)), none⟩, (.int .i64))]) <|
  .ret
noncomputable def sf_super_Check (n : Nat) : Sf := sfOf [(k_super_Config, s_super_Config n)]
noncomputable def it_super_Check (n : Nat) : It := itOf []
def f_super_Check (n : Nat) (u0 : Value) (h : Heap) : Option ((Int × Unit) × Heap) :=
  bif (cellsOf u0).all isCell then
    (bnd ((Heap.new h (.cells (cellsOf u0) false 0))) fun h0 =>
    (ldA 5 h0 (some (fa (nwA h) 0))).bind fun cs1 =>
    (f_super_Config n (.agg ⟨cs1⟩) h0).bind fun p2 =>
    bif (!decide (p2.1.1 = 0)) then
      (some ((p2.1.1, ()), p2.2))
    else
      ((((ldT (.int .u64) p2.2 (some (fa (nwA h) 5))).bind fun x3 =>
        bif (decide (4611686018427387904 < x3)) then
          (some ((true, ()), p2.2))
        else
          ((ldT (.int .u64) p2.2 (some (fa (nwA h) 6))).bind fun x4 =>
          bif (decide (x4 < 1)) then
            (some ((true, ()), p2.2))
          else
            ((ldT (.int .u64) p2.2 (some (fa (nwA h) 6))).bind fun x5 =>
            some (((decide (4611686018427387904 < x5)), ()), p2.2)))) : Option ((Bool × Unit) × Heap)).bind fun a6 =>
      bif a6.1.1 then
        (some ((70, ()), a6.2))
      else
        (some ((0, ()), a6.2))))
  else
    (none)
def rs_super_Check : Rs := [(.tmp 2, (.int .i64))]
def ps_super_Check : List Ty := [.any]
theorem e_super_Check (n : Nat) (u0 : Value) (h : Heap) : f_super_Check n u0 h = fB (sf_super_Check n) (it_super_Check n) n c2_super_Check rs_super_Check ps_super_Check (u0, ()) h := by kernel_rfl
noncomputable def s_super_Check (n : Nat) : Sf1 := mkSf ps_super_Check rs_super_Check fun a h => f_super_Check n a.1 h

/- wicket/home.fits -/
def c2_home_fits : C2 :=
  .seq (.reg [(⟨(some 3), .box (.tmp 1), none⟩, .ptr),
      (⟨(some 4), .move (.const (.int .i64 0)), none⟩, (.int .i64))]) <|
  .seq (.seq (.reg [(⟨(some 6), .move (.tmp 0), none⟩, .ptr),
        (⟨(some 7), .eqv false .ptr (.tmp 6) (.const (.pointer none)), none⟩, .bool)]) <|
    .cond (.tmp 7)
      (.seq (.reg [(⟨(some 4), .move (.const (.int .i64 1)), none⟩, (.int .i64))]) <|
      .ret)
      (.skip)) <|
  .seq (.seq (.reg [(⟨(some 8), .load true 5 (.tmp 3), none⟩, .any),
        (⟨(some 9), .call k_super_Config [(.tmp 8)], none⟩, (.int .i64)),
        (⟨(some 5), .move (.tmp 9), none⟩, (.int .i64))]) <|
    .seq (.reg [(⟨(some 10), .move (.tmp 5), none⟩, (.int .i64)),
        (⟨(some 11), .bin .neq (.tmp 10) (.const (.int .i64 0)), none⟩, .bool)]) <|
    .cond (.tmp 11)
      (.seq (.reg [(⟨(some 12), .move (.tmp 5), none⟩, (.int .i64)),
          (⟨(some 4), .move (.tmp 12), none⟩, (.int .i64))]) <|
      .ret)
      (.skip)) <|
  .seq (.seq (.regd [(⟨0, [], false, ⟨(some 13), .move (.tmp 0), none⟩⟩, .ptr),
        (⟨2, [], false, ⟨(some 15), .fieldAddr 0 (.tmp 3), none⟩⟩, .ptr),
        (⟨3, [2], false, ⟨(some 16), .load false 1 (.tmp 15), none⟩⟩, (.int .i64)),
        (⟨4, [3, 2], false, ⟨(some 17), .bin .add (.const (.int .i64 1)) (.tmp 16), none⟩⟩, (.int .i64)),
        (⟨5, [], false, ⟨(some 18), .fieldAddr 1 (.tmp 3), none⟩⟩, .ptr),
        (⟨6, [5], false, ⟨(some 19), .load false 1 (.tmp 18), none⟩⟩, (.int .i64)),
        (⟨7, [4, 6, 3, 2, 5], false, ⟨(some 20), .bin .add (.tmp 17) (.tmp 19), none⟩⟩, (.int .i64)),
        (⟨1, [0], true, ⟨(some 14), .call k_sector_Disk_Len [(.tmp 13)], none⟩⟩, (.int .i64)),
        (⟨8, [1, 7, 0, 4, 6, 3, 2, 5], false, ⟨(some 21), .bin .neq (.tmp 14) (.tmp 20), none⟩⟩, .bool)]) <|
    .cond (.tmp 21)
      (.seq (.reg [(⟨(some 4), .move (.const (.int .i64 40)), none⟩, (.int .i64))]) <|
      .ret)
      (.skip)) <|
  .seq (.reg [(⟨(some 4), .move (.const (.int .i64 0)), none⟩, (.int .i64))]) <|
  .ret
noncomputable def sf_home_fits (n : Nat) : Sf := sfOf [(k_super_Config, s_super_Config n), (k_sector_Disk_Len, s_sector_Disk_Len n)]
noncomputable def it_home_fits (n : Nat) : It := itOf []
def f_home_fits (n : Nat) (u0 : Option Addr) (u1 : Value) (h : Heap) : Option ((Int × Unit) × Heap) :=
  bif (cellsOf u1).all isCell then
    (bnd ((Heap.new h (.cells (cellsOf u1) false 0))) fun h0 =>
    bif (Option.isNone u0) then
      (some ((1, ()), h0))
    else
      ((ldA 5 h0 (some (nwA h))).bind fun cs1 =>
      (f_super_Config n (.agg ⟨cs1⟩) h0).bind fun p2 =>
      bif (!decide (p2.1.1 = 0)) then
        (some ((p2.1.1, ()), p2.2))
      else
        ((ldT (.int .i64) p2.2 (some (fa (nwA h) 0))).bind fun x3 =>
        (ldT (.int .i64) p2.2 (some (fa (nwA h) 1))).bind fun x4 =>
        (f_sector_Disk_Len n u0 (hid p2.2 [] ((Addr.block (fa (nwA h) 1)) :: ((Addr.block (fa (nwA h) 0)) :: [])))).bind fun p5 =>
        bnd (Heap.putBack p5.2 p2.2 ([] ++ ((Addr.block (fa (nwA h) 1)) :: ((Addr.block (fa (nwA h) 0)) :: [])))) fun h6 =>
        bif (!decide (p5.1.1 = (IntKind.i64.wrap ((IntKind.i64.wrap (1 + x3)) + x4)))) then
          (some ((40, ()), h6))
        else
          (some ((0, ()), h6)))))
  else
    (none)
def rs_home_fits : Rs := [(.tmp 4, (.int .i64))]
def ps_home_fits : List Ty := [.ptr, .any]
theorem e_home_fits (n : Nat) (u0 : Option Addr) (u1 : Value) (h : Heap) : f_home_fits n u0 u1 h = fB (sf_home_fits n) (it_home_fits n) n c2_home_fits rs_home_fits ps_home_fits (u0, (u1, ())) h := by kernel_rfl
noncomputable def s_home_fits (n : Nat) : Sf1 := mkSf ps_home_fits rs_home_fits fun a h => f_home_fits n a.1 a.2.1 h

/- wicket/wicketref08.Encode -/
def c2_wicketref08_Encode : C2 :=
  .seq (.reg [(⟨(some 3), .box (.tmp 1), none⟩, .ptr),
      (⟨(some 4), .move (.const (.slice none 0 0)), none⟩, .any),
      (⟨(some 5), .move (.const (.int .i64 0)), none⟩, (.int .i64))]) <|
  .seq (.seq (.cutn [(12, .bool)] <|
        .reg [(⟨(some 7), .move (.tmp 0), none⟩, (.int .i64)),
          (⟨(some 8), .bin .lss (.tmp 7) (.const (.int .i64 0)), none⟩, .bool),
          (⟨(some 9), .move (.tmp 8), none⟩, .bool),
          (⟨(some 10), .move (.tmp 0), some (9, false)⟩, (.int .i64)),
          (⟨(some 11), .bin .geq (.tmp 10) (.const (.int .i64 64)), some (9, false)⟩, .bool),
          (⟨(some 12), .pick (.tmp 9) (.const (.bool true)) (.tmp 11), none⟩, .bool)]) <|
    .cond (.tmp 12)
      (.seq (.reg [(⟨(some 4), .move (.const (.slice none 0 0)), none⟩, .any),
          (⟨(some 5), .move (.const (.int .i64 51)), none⟩, (.int .i64))]) <|
      .ret)
      (.skip)) <|
  .seq (.reg [(⟨(some 13), .buildSlice 4 1 (List.replicate 4 (.int .u8 0)) [(0, 1, (.const (.int .u8 72))), (1, 1, (.const (.int .u8 79))), (2, 1, (.const (.int .u8 77))), (3, 1, (.const (.int .u8 69)))], none⟩, .any),
      (⟨(some 14), .markS (.tmp 13), none⟩, .any),
      (⟨(some 15), .move (.tmp 0), none⟩, (.int .i64)),
      (⟨(some 16), .conv .u8 (.tmp 15), none⟩, (.int .u8)),
      (⟨(some 17), .buildSlice 2 1 [(.int .u8 0), (.int .u8 0)] [(0, 1, (.const (.int .u8 1))), (1, 1, (.tmp 16))], none⟩, .any),
      (⟨(some 18), .append 1 1 (.tmp 14) (.tmp 17), none⟩, .any),
      (⟨(some 6), .move (.tmp 18), none⟩, .any)]) <|
  .seq (.reg [(⟨(some 19), .move (.tmp 6), none⟩, .any),
      (⟨(some 20), .appendZ 1 1 [(.int .u8 0)] (.tmp 19) (.const (.int .i64 22)), none⟩, .any),
      (⟨(some 6), .move (.tmp 20), none⟩, .any)]) <|
  .seq (.reg [(⟨(some 21), .move (.tmp 6), none⟩, .any),
      (⟨(some 22), .sliceArr 32 1 (.tmp 3) none none none, none⟩, .any),
      (⟨(some 23), .append 1 1 (.tmp 21) (.tmp 22), none⟩, .any),
      (⟨(some 6), .move (.tmp 23), none⟩, .any)]) <|
  .seq (.reg [(⟨(some 24), .move (.tmp 6), none⟩, .any),
      (⟨(some 25), .call k_wicketref08_Summed [(.tmp 24)], none⟩, .any),
      (⟨(some 4), .move (.tmp 25), none⟩, .any),
      (⟨(some 5), .move (.const (.int .i64 0)), none⟩, (.int .i64))]) <|
  .ret
noncomputable def sf_wicketref08_Encode (n : Nat) : Sf := sfOf [(k_wicketref08_Summed, s_wicketref08_Summed n)]
noncomputable def it_wicketref08_Encode (n : Nat) : It := itOf []
def f_wicketref08_Encode (n : Nat) (u0 : Int) (u1 : Value) (h : Heap) : Option ((Value × Int × Unit) × Heap) :=
  bif (cellsOf u1).all isCell then
    (bnd ((Heap.new h (.cells (cellsOf u1) false 0))) fun h0 =>
    ((bif (decide (u0 < 0)) then
        (some ((true, ()), h0))
      else
        (some (((decide (64 ≤ u0)), ()), h0))) : Option ((Bool × Unit) × Heap)).bind fun a1 =>
    bif a1.1.1 then
      (some (((.slice none 0 0), (51, ())), a1.2))
    else
      ((fillL (List.replicate 4 (.int .u8 0)) [(0, 1, (.int .u8 72)), (1, 1, (.int .u8 79)), (2, 1, (.int .u8 77)), (3, 1, (.int .u8 69))]).bind fun cs2 =>
      bnd ((Heap.new a1.2 (.cells cs2 false 1))) fun h3 =>
      (markSK h3 (.slice (some ⟨Heap.next a1.2, 0, some 0⟩) 4 4)).bind fun p4 =>
      (fillL [(.int .u8 0), (.int .u8 0)] [(0, 1, (.int .u8 1)), (1, 1, (.int .u8 (IntKind.u8.wrap (u0))))]).bind fun cs5 =>
      bnd ((Heap.new p4.2 (.cells cs5 false 1))) fun h6 =>
      (appendK h6 1 1 p4.1 (.slice (some ⟨Heap.next p4.2, 0, some 0⟩) 2 2)).bind fun p7 =>
      (appendZK p7.2 1 1 [(.int .u8 0)] p7.1 (.int .i64 22)).bind fun p8 =>
      (sliceArrK p8.2 32 1 none none (.pointer (some (nwA h)))).bind fun p9 =>
      (appendK p8.2 1 1 p8.1 p9.1).bind fun p10 =>
      (f_wicketref08_Summed n p10.1 p10.2).bind fun p11 =>
      bif !isTuple p11.1.1 then
        (some ((p11.1.1, (0, ())), p11.2))
      else
        (none)))
  else
    (none)
def rs_wicketref08_Encode : Rs := [(.tmp 4, .any), (.tmp 5, (.int .i64))]
def ps_wicketref08_Encode : List Ty := [(.int .i64), .any]
theorem e_wicketref08_Encode (n : Nat) (u0 : Int) (u1 : Value) (h : Heap) : f_wicketref08_Encode n u0 u1 h = fB (sf_wicketref08_Encode n) (it_wicketref08_Encode n) n c2_wicketref08_Encode rs_wicketref08_Encode ps_wicketref08_Encode (u0, (u1, ())) h := by kernel_rfl
noncomputable def s_wicketref08_Encode (n : Nat) : Sf1 := mkSf ps_wicketref08_Encode rs_wicketref08_Encode fun a h => f_wicketref08_Encode n a.1 a.2.1 h

/- wicket/wicketref08.Decode -/
def c2_wicketref08_Decode : C2 :=
  .seq (.reg [(⟨(some 4), .alloc (List.replicate 32 (.int .u8 0)), none⟩, .ptr),
      (⟨(some 5), .move (.const (.int .i64 0)), none⟩, (.int .i64))]) <|
  .seq (.reg [(⟨(some 6), .alloc (List.replicate 32 (.int .u8 0)), none⟩, .ptr)]) <|
  .seq (.seq (.cutn [(15, .bool)] <|
        .reg [(⟨(some 10), .move (.tmp 1), none⟩, (.int .i64)),
          (⟨(some 11), .bin .lss (.tmp 10) (.const (.int .i64 0)), none⟩, .bool),
          (⟨(some 12), .move (.tmp 11), none⟩, .bool),
          (⟨(some 13), .move (.tmp 1), some (12, false)⟩, (.int .i64)),
          (⟨(some 14), .bin .geq (.tmp 13) (.const (.int .i64 64)), some (12, false)⟩, .bool),
          (⟨(some 15), .pick (.tmp 12) (.const (.bool true)) (.tmp 14), none⟩, .bool)]) <|
    .cond (.tmp 15)
      (.seq (.reg [(⟨(some 16), .load true 32 (.tmp 6), none⟩, .any),
          (⟨none, .store 32 (.tmp 4) (.tmp 16), none⟩, .any),
          (⟨(some 5), .move (.const (.int .i64 51)), none⟩, (.int .i64))]) <|
      .ret)
      (.skip)) <|
  .seq (.seq (.reg [(⟨(some 17), .move (.tmp 0), none⟩, .any),
        (⟨(some 18), .lenS (.tmp 17), none⟩, (.int .i64)),
        (⟨(some 19), .bin .neq (.tmp 18) (.const (.int .i64 64)), none⟩, .bool)]) <|
    .cond (.tmp 19)
      (.seq (.reg [(⟨(some 20), .load true 32 (.tmp 6), none⟩, .any),
          (⟨none, .store 32 (.tmp 4) (.tmp 20), none⟩, .any),
          (⟨(some 5), .move (.const (.int .i64 2)), none⟩, (.int .i64))]) <|
      .ret)
      (.skip)) <|
  .seq (.cutn [] <|
      .seq (.reg [(⟨(some 7), .move (.const (.int .i64 0)), none⟩, (.int .i64))]) <|
      .block 0 <|
        .loop [(7, (.int .i64))] <|
          .seq (.seq (.reg [(⟨(some 21), .move (.tmp 7), none⟩, (.int .i64)),
                (⟨(some 22), .bin .lss (.tmp 21) (.const (.int .i64 32)), none⟩, .bool)]) <|
            .cond (.tmp 22)
              (.skip)
              (.exit 0)) <|
          .seq (.block 1 <|
              .reg [(⟨(some 25), .move (.tmp 7), none⟩, (.int .i64)),
                (⟨(some 26), .move (.tmp 0), none⟩, .any),
                (⟨(some 27), .move (.tmp 7), none⟩, (.int .i64)),
                (⟨(some 28), .bin .add (.const (.int .i64 28)) (.tmp 27), none⟩, (.int .i64)),
                (⟨(some 29), .idxSlice 1 (.tmp 26) (.tmp 28), none⟩, .ptr),
                (⟨(some 30), .load false 1 (.tmp 29), none⟩, (.int .u8)),
                (⟨(some 31), .idxArr 32 1 (.tmp 6) (.tmp 25), none⟩, .ptr),
                (⟨none, .store 1 (.tmp 31) (.tmp 30), none⟩, .any)]) <|
          .reg [(⟨(some 23), .move (.tmp 7), none⟩, (.int .i64)),
            (⟨(some 24), .bin .add (.tmp 23) (.const (.int .i64 1)), none⟩, (.int .i64)),
            (⟨(some 7), .move (.tmp 24), none⟩, (.int .i64))]) <|
  .seq (.reg [(⟨(some 33), .move (.tmp 1), none⟩, (.int .i64)),
      (⟨(some 34), .load true 32 (.tmp 6), none⟩, .any),
      (⟨(some 35), .call k_wicketref08_Encode [(.tmp 33), (.tmp 34)], none⟩, .any),
      (⟨(some 32), .move (.tmp 35), none⟩, .any),
      (⟨(some 36), .extract (.tmp 32) 0, none⟩, .any),
      (⟨(some 37), .extract (.tmp 32) 1, none⟩, (.int .i64)),
      (⟨(some 8), .move (.tmp 36), none⟩, .any),
      (⟨(some 9), .move (.tmp 37), none⟩, (.int .i64))]) <|
  .seq (.seq (.reg [(⟨(some 38), .move (.tmp 8), none⟩, .any),
        (⟨(some 39), .toStr (.tmp 38), none⟩, .any),
        (⟨(some 40), .move (.tmp 0), none⟩, .any),
        (⟨(some 41), .toStr (.tmp 40), none⟩, .any),
        (⟨(some 42), .bins .neq (.tmp 39) (.tmp 41), none⟩, .bool)]) <|
    .cond (.tmp 42)
      (.seq (.reg [(⟨(some 43), .build (List.replicate 32 (.int .u8 0)) [], none⟩, .any),
          (⟨none, .store 32 (.tmp 4) (.tmp 43), none⟩, .any),
          (⟨(some 5), .move (.const (.int .i64 80)), none⟩, (.int .i64))]) <|
      .ret)
      (.skip)) <|
  .seq (.reg [(⟨(some 44), .load true 32 (.tmp 6), none⟩, .any),
      (⟨none, .store 32 (.tmp 4) (.tmp 44), none⟩, .any),
      (⟨(some 5), .move (.const (.int .i64 0)), none⟩, (.int .i64))]) <|
  .ret
def f_wicketref08_Decode_L16 (n : Nat) (u0 : Value) (h0 : Heap) (v10 : Int) (h11 : Heap) : Option (((Int × Unit) × Heap) ⊕ ((Unit) × Heap)) :=
  bif (decide (v10 < 32)) then
    ((ixB 1 u0 (IntKind.i64.wrap (28 + v10))).bind fun q12 =>
    (ldT (.int .u8) h11 (some q12)).bind fun x13 =>
    (ixA 32 1 (some (nwA h0)) v10).bind fun q14 =>
    (stB 1 (.int .u8 x13) h11 (some q14)).bind fun h15 =>
    some (.inl (((IntKind.i64.wrap (v10 + 1)), ()), h15)))
  else
    (some (.inr ((), h11)))
noncomputable def sf_wicketref08_Decode (n : Nat) : Sf := sfOf [(k_wicketref08_Encode, s_wicketref08_Encode n)]
noncomputable def it_wicketref08_Decode (n : Nat) : It := itOf []
def f_wicketref08_Decode (n : Nat) (u0 : Value) (u1 : Int) (h : Heap) : Option ((Value × Int × Unit) × Heap) :=
  bnd ((Heap.new h (.cells (List.replicate 32 (.int .u8 0)) false 0))) fun h0 =>
  bnd ((Heap.new h0 (.cells (List.replicate 32 (.int .u8 0)) false 0))) fun h1 =>
  ((bif (decide (u1 < 0)) then
      (some ((true, ()), h1))
    else
      (some (((decide (64 ≤ u1)), ()), h1))) : Option ((Bool × Unit) × Heap)).bind fun a2 =>
  bif a2.1.1 then
    ((ldA 32 a2.2 (some (nwA h0))).bind fun cs3 =>
    (stB 32 (.agg ⟨cs3⟩) a2.2 (some (nwA h))).bind fun h4 =>
    (ldA 32 h4 (some (nwA h))).bind fun cs5 =>
    some (((.agg ⟨cs5⟩), (51, ())), h4))
  else
    ((lenB u0).bind fun n6 =>
    bif (!decide ((n6 : Int) = 64)) then
      ((ldA 32 a2.2 (some (nwA h0))).bind fun cs7 =>
      (stB 32 (.agg ⟨cs7⟩) a2.2 (some (nwA h))).bind fun h8 =>
      (ldA 32 h8 (some (nwA h))).bind fun cs9 =>
      some (((.agg ⟨cs9⟩), (2, ())), h8))
    else
      (((loopT (fun a => f_wicketref08_Decode_L16 n u0 h0 a.1.1 a.2) n ((0, ()), a2.2)) : Option ((Unit) × Heap)).bind fun a17 =>
      (ldA 32 a17.2 (some (nwA h0))).bind fun cs18 =>
      (f_wicketref08_Encode n u1 (.agg ⟨cs18⟩) a17.2).bind fun p19 =>
      (toStrK p19.2 p19.1.1).bind fun p20 =>
      (toStrK p19.2 u0).bind fun p21 =>
      (binsT .bool p19.2 .neq p20.1 p21.1).bind fun x22 =>
      bif x22 then
        ((fillL (List.replicate 32 (.int .u8 0)) []).bind fun cs23 =>
        (stB 32 (.agg ⟨cs23⟩) p19.2 (some (nwA h))).bind fun h24 =>
        (ldA 32 h24 (some (nwA h))).bind fun cs25 =>
        some (((.agg ⟨cs25⟩), (80, ())), h24))
      else
        ((ldA 32 p19.2 (some (nwA h0))).bind fun cs26 =>
        (stB 32 (.agg ⟨cs26⟩) p19.2 (some (nwA h))).bind fun h27 =>
        (ldA 32 h27 (some (nwA h))).bind fun cs28 =>
        some (((.agg ⟨cs28⟩), (0, ())), h27))))
def rs_wicketref08_Decode : Rs := [(.cell true 32 4, .any), (.tmp 5, (.int .i64))]
def ps_wicketref08_Decode : List Ty := [.any, (.int .i64)]
theorem e_wicketref08_Decode (n : Nat) (u0 : Value) (u1 : Int) (h : Heap) : f_wicketref08_Decode n u0 u1 h = fB (sf_wicketref08_Decode n) (it_wicketref08_Decode n) n c2_wicketref08_Decode rs_wicketref08_Decode ps_wicketref08_Decode (u0, (u1, ())) h := by kernel_rfl
noncomputable def s_wicketref08_Decode (n : Nat) : Sf1 := mkSf ps_wicketref08_Decode rs_wicketref08_Decode fun a h => f_wicketref08_Decode n a.1 a.2.1 h

/- wicket/super.Encode -/
def c2_super_Encode : C2 :=
  .seq (.reg [(⟨(some 1), .box (.tmp 0), none⟩, .ptr),
      (⟨(some 2), .move (.const (.slice none 0 0)), none⟩, .any),
      (⟨(some 3), .move (.const (.int .i64 0)), none⟩, (.int .i64))]) <|
  .seq (.seq (.reg [(⟨(some 13), .load true 7 (.tmp 1), none⟩, .any),
        (⟨(some 14), .call k_super_Check [(.tmp 13)], none⟩, (.int .i64)),
        (⟨(some 4), .move (.tmp 14), none⟩, (.int .i64))]) <|
    .seq (.reg [(⟨(some 15), .move (.tmp 4), none⟩, (.int .i64)),
        (⟨(some 16), .bin .neq (.tmp 15) (.const (.int .i64 0)), none⟩, .bool)]) <|
    .cond (.tmp 16)
      (.seq (.reg [(⟨(some 17), .move (.tmp 4), none⟩, (.int .i64)),
          (⟨(some 2), .move (.const (.slice none 0 0)), none⟩, .any),
          (⟨(some 3), .move (.tmp 17), none⟩, (.int .i64))]) <|
      .ret)
      (.skip)) <|
  .seq (.reg [(⟨(some 18), .fieldAddr 0 (.tmp 1), none⟩, .ptr),
      (⟨(some 19), .load true 5 (.tmp 18), none⟩, .any),
      (⟨(some 5), .alloc (List.replicate 5 (.int .i64 0)), none⟩, .ptr),
      (⟨none, .store 5 (.tmp 5) (.tmp 19), none⟩, .any)]) <|
  .seq (.reg [(⟨(some 20), .buildSlice 6 1 (List.replicate 6 (.int .u8 0)) [(0, 1, (.const (.int .u8 87))), (1, 1, (.const (.int .u8 73))), (2, 1, (.const (.int .u8 67))), (3, 1, (.const (.int .u8 75))), (4, 1, (.const (.int .u8 69))), (5, 1, (.const (.int .u8 84)))], none⟩, .any),
      (⟨(some 21), .markS (.tmp 20), none⟩, .any),
      (⟨(some 6), .move (.tmp 21), none⟩, .any)]) <|
  .seq (.cutn [(6, .any)] <|
      .seq (.reg [(⟨(some 22), .fieldAddr 0 (.tmp 5), none⟩, .ptr),
          (⟨(some 23), .load false 1 (.tmp 22), none⟩, (.int .i64)),
          (⟨(some 24), .conv .u64 (.tmp 23), none⟩, (.int .u64)),
          (⟨(some 25), .fieldAddr 1 (.tmp 5), none⟩, .ptr),
          (⟨(some 26), .load false 1 (.tmp 25), none⟩, (.int .i64)),
          (⟨(some 27), .conv .u64 (.tmp 26), none⟩, (.int .u64)),
          (⟨(some 28), .fieldAddr 2 (.tmp 5), none⟩, .ptr),
          (⟨(some 29), .load false 1 (.tmp 28), none⟩, (.int .i64)),
          (⟨(some 30), .conv .u64 (.tmp 29), none⟩, (.int .u64)),
          (⟨(some 31), .fieldAddr 3 (.tmp 5), none⟩, .ptr),
          (⟨(some 32), .load false 1 (.tmp 31), none⟩, (.int .i64)),
          (⟨(some 33), .conv .u64 (.tmp 32), none⟩, (.int .u64)),
          (⟨(some 34), .fieldAddr 4 (.tmp 5), none⟩, .ptr),
          (⟨(some 35), .load false 1 (.tmp 34), none⟩, (.int .i64)),
          (⟨(some 36), .conv .u64 (.tmp 35), none⟩, (.int .u64)),
          (⟨(some 37), .fieldAddr 5 (.tmp 1), none⟩, .ptr),
          (⟨(some 38), .load false 1 (.tmp 37), none⟩, (.int .u64)),
          (⟨(some 39), .fieldAddr 6 (.tmp 1), none⟩, .ptr),
          (⟨(some 40), .load false 1 (.tmp 39), none⟩, (.int .u64)),
          (⟨(some 41), .buildSlice 10 1 (List.replicate 10 (.int .u64 0)) [(0, 1, (.const (.int .u64 1))), (1, 1, (.const (.int .u64 0))), (2, 1, (.tmp 24)), (3, 1, (.tmp 27)), (4, 1, (.tmp 30)), (5, 1, (.tmp 33)), (6, 1, (.tmp 36)), (7, 1, (.const (.int .u64 0))), (8, 1, (.tmp 38)), (9, 1, (.tmp 40))], none⟩, .any),
          (⟨(some 42), .lenS (.tmp 41), none⟩, (.int .i64)),
          (⟨(some 43), .move (.const (.int .i64 0)), none⟩, (.int .i64))]) <|
      .block 0 <|
        .loop [(6, .any), (43, (.int .i64))] <|
          .seq (.reg [(⟨(some 44), .bin .lss (.tmp 43) (.tmp 42), none⟩, .any)]) <|
          .seq (.cond (.tmp 44)
              (.skip)
              (.exit 0)) <|
          .seq (.block 1 <|
              .seq (.reg [(⟨(some 45), .move (.tmp 43), none⟩, (.int .i64)),
                  (⟨(some 46), .idxSlice 1 (.tmp 41) (.tmp 43), none⟩, .ptr),
                  (⟨(some 47), .load false 1 (.tmp 46), none⟩, (.int .u64)),
                  (⟨(some 7), .move (.tmp 45), none⟩, (.int .i64)),
                  (⟨(some 8), .move (.tmp 47), none⟩, (.int .u64))]) <|
              .seq (.reg [(⟨(some 49), .move (.tmp 8), none⟩, (.int .u64)),
                  (⟨(some 50), .move (.tmp 7), none⟩, (.int .i64)),
                  (⟨(some 51), .idxArr 10 1 (.global 0) (.tmp 50), none⟩, .ptr),
                  (⟨(some 52), .load false 1 (.tmp 51), none⟩, (.int .i64)),
                  (⟨(some 53), .call k_octet_Put [(.tmp 49), (.tmp 52)], none⟩, .any),
                  (⟨(some 48), .move (.tmp 53), none⟩, .any),
                  (⟨(some 54), .extract (.tmp 48) 0, none⟩, .any),
                  (⟨(some 55), .extract (.tmp 48) 1, none⟩, (.int .i64)),
                  (⟨(some 9), .move (.tmp 54), none⟩, .any),
                  (⟨(some 10), .move (.tmp 55), none⟩, (.int .i64))]) <|
              .reg [(⟨(some 56), .move (.tmp 6), none⟩, .any),
                (⟨(some 57), .move (.tmp 9), none⟩, .any),
                (⟨(some 58), .append 1 1 (.tmp 56) (.tmp 57), none⟩, .any),
                (⟨(some 6), .move (.tmp 58), none⟩, .any)]) <|
          .reg [(⟨(some 59), .bin .add (.tmp 43) (.const (.int .i64 1)), none⟩, (.int .i64)),
            (⟨(some 43), .move (.tmp 59), none⟩, (.int .i64))]) <|
  .seq (.reg [(⟨(some 61), .move (.tmp 6), none⟩, .any),
      (⟨(some 62), .call k_octet_Pad [(.tmp 61), (.const (.int .i64 60))], none⟩, .any),
      (⟨(some 60), .move (.tmp 62), none⟩, .any),
      (⟨(some 63), .extract (.tmp 60) 0, none⟩, .any),
      (⟨(some 64), .extract (.tmp 60) 1, none⟩, (.int .i64)),
      (⟨(some 6), .move (.tmp 63), none⟩, .any)]) <|
  .seq (.reg [(⟨(some 66), .move (.tmp 6), none⟩, .any),
      (⟨(some 67), .buildSlice 1 1 [(.slice none 0 0)] [(0, 1, (.tmp 66))], none⟩, .any),
      (⟨(some 68), .call k_sum_Of [(.tmp 67)], none⟩, (.int .u32)),
      (⟨(some 69), .conv .u64 (.tmp 68), none⟩, (.int .u64)),
      (⟨(some 70), .call k_octet_Put [(.tmp 69), (.const (.int .i64 4))], none⟩, .any),
      (⟨(some 65), .move (.tmp 70), none⟩, .any),
      (⟨(some 71), .extract (.tmp 65) 0, none⟩, .any),
      (⟨(some 72), .extract (.tmp 65) 1, none⟩, (.int .i64)),
      (⟨(some 11), .move (.tmp 71), none⟩, .any),
      (⟨(some 12), .move (.tmp 72), none⟩, (.int .i64))]) <|
  .seq (.reg [(⟨(some 73), .move (.tmp 6), none⟩, .any),
      (⟨(some 74), .move (.tmp 11), none⟩, .any),
      (⟨(some 75), .append 1 1 (.tmp 73) (.tmp 74), none⟩, .any),
      (⟨(some 2), .move (.tmp 75), none⟩, .any),
      (⟨(some 3), .move (.const (.int .i64 0)), none⟩, (.int .i64))]) <|
  .ret
def f_super_Encode_L28 (n : Nat) (p8 : (Value × Heap)) (n18 : Nat) (v19 : Value) (v20 : Int) (h21 : Heap) : Option (((Value × Int × Unit) × Heap) ⊕ ((Value × Unit) × Heap)) :=
  bif (decide (v20 < (n18 : Int))) then
    ((ixB 1 (.slice (some ⟨Heap.next p8.2, 0, some 0⟩) 10 10) v20).bind fun q22 =>
    (ldT (.int .u64) h21 (some q22)).bind fun x23 =>
    (ixA 10 1 (some ⟨0, 0, none⟩) v20).bind fun q24 =>
    (ldT (.int .i64) h21 (some q24)).bind fun x25 =>
    (f_octet_Put n x23 x25 h21).bind fun p26 =>
    (appendK p26.2 1 1 v19 p26.1.1).bind fun p27 =>
    some (.inl ((p27.1, ((IntKind.i64.wrap (v20 + 1)), ())), p27.2)))
  else
    (some (.inr ((v19, ()), h21)))
noncomputable def sf_super_Encode (n : Nat) : Sf := sfOf [(k_super_Check, s_super_Check n), (k_octet_Put, s_octet_Put n), (k_octet_Pad, s_octet_Pad n), (k_sum_Of, s_sum_Of n)]
noncomputable def it_super_Encode (n : Nat) : It := itOf []
def f_super_Encode (n : Nat) (u0 : Value) (h : Heap) : Option ((Value × Int × Unit) × Heap) :=
  bif (cellsOf u0).all isCell then
    (bnd ((Heap.new h (.cells (cellsOf u0) false 0))) fun h0 =>
    (ldA 7 h0 (some (nwA h))).bind fun cs1 =>
    (f_super_Check n (.agg ⟨cs1⟩) h0).bind fun p2 =>
    bif (!decide (p2.1.1 = 0)) then
      (some (((.slice none 0 0), (p2.1.1, ())), p2.2))
    else
      ((ldA 5 p2.2 (some (fa (nwA h) 0))).bind fun cs3 =>
      bnd ((Heap.new p2.2 (.cells (List.replicate 5 (.int .i64 0)) false 0))) fun h4 =>
      (stB 5 (.agg ⟨cs3⟩) h4 (some (nwA p2.2))).bind fun h5 =>
      (fillL (List.replicate 6 (.int .u8 0)) [(0, 1, (.int .u8 87)), (1, 1, (.int .u8 73)), (2, 1, (.int .u8 67)), (3, 1, (.int .u8 75)), (4, 1, (.int .u8 69)), (5, 1, (.int .u8 84))]).bind fun cs6 =>
      bnd ((Heap.new h5 (.cells cs6 false 1))) fun h7 =>
      (markSK h7 (.slice (some ⟨Heap.next h5, 0, some 0⟩) 6 6)).bind fun p8 =>
      (((ldT (.int .i64) p8.2 (some (fa (nwA p2.2) 0))).bind fun x9 =>
        (ldT (.int .i64) p8.2 (some (fa (nwA p2.2) 1))).bind fun x10 =>
        (ldT (.int .i64) p8.2 (some (fa (nwA p2.2) 2))).bind fun x11 =>
        (ldT (.int .i64) p8.2 (some (fa (nwA p2.2) 3))).bind fun x12 =>
        (ldT (.int .i64) p8.2 (some (fa (nwA p2.2) 4))).bind fun x13 =>
        (ldT (.int .u64) p8.2 (some (fa (nwA h) 5))).bind fun x14 =>
        (ldT (.int .u64) p8.2 (some (fa (nwA h) 6))).bind fun x15 =>
        (fillL (List.replicate 10 (.int .u64 0)) [(0, 1, (.int .u64 1)), (1, 1, (.int .u64 0)), (2, 1, (.int .u64 (IntKind.u64.wrap (x9)))), (3, 1, (.int .u64 (IntKind.u64.wrap (x10)))), (4, 1, (.int .u64 (IntKind.u64.wrap (x11)))), (5, 1, (.int .u64 (IntKind.u64.wrap (x12)))), (6, 1, (.int .u64 (IntKind.u64.wrap (x13)))), (7, 1, (.int .u64 0)), (8, 1, (.int .u64 x14)), (9, 1, (.int .u64 x15))]).bind fun cs16 =>
        bnd ((Heap.new p8.2 (.cells cs16 false 1))) fun h17 =>
        (lenB (.slice (some ⟨Heap.next p8.2, 0, some 0⟩) 10 10)).bind fun n18 =>
        loopT (fun a => f_super_Encode_L28 n p8 n18 a.1.1 a.1.2.1 a.2) n ((p8.1, (0, ())), h17)) : Option ((Value × Unit) × Heap)).bind fun a29 =>
      (f_octet_Pad n a29.1.1 60 a29.2).bind fun p30 =>
      (fillL [(.slice none 0 0)] [(0, 1, p30.1.1)]).bind fun cs31 =>
      bnd ((Heap.new p30.2 (.cells cs31 false 1))) fun h32 =>
      (f_sum_Of n (.slice (some ⟨Heap.next p30.2, 0, some 0⟩) 1 1) h32).bind fun p33 =>
      (f_octet_Put n (IntKind.u64.wrap (p33.1.1)) 4 p33.2).bind fun p34 =>
      (appendK p34.2 1 1 p30.1.1 p34.1.1).bind fun p35 =>
      bif !isTuple p35.1 then
        (some ((p35.1, (0, ())), p35.2))
      else
        (none)))
  else
    (none)
def rs_super_Encode : Rs := [(.tmp 2, .any), (.tmp 3, (.int .i64))]
def ps_super_Encode : List Ty := [.any]
theorem e_super_Encode (n : Nat) (u0 : Value) (h : Heap) : f_super_Encode n u0 h = fB (sf_super_Encode n) (it_super_Encode n) n c2_super_Encode rs_super_Encode ps_super_Encode (u0, ()) h := by kernel_rfl
noncomputable def s_super_Encode (n : Nat) : Sf1 := mkSf ps_super_Encode rs_super_Encode fun a h => f_super_Encode n a.1 h

/- wicket/home.has -/
def c2_home_has : C2 :=
  .seq (.reg [(⟨(some 4), .box (.tmp 1), none⟩, .ptr),
      (⟨(some 6), .move (.const (.int .i64 0)), none⟩, (.int .i64))]) <|
  .seq (.seq (.reg [(⟨(some 8), .move (.tmp 0), none⟩, .ptr),
        (⟨(some 9), .load true 5 (.tmp 4), none⟩, .any),
        (⟨(some 10), .call k_home_fits [(.tmp 8), (.tmp 9)], none⟩, (.int .i64)),
        (⟨(some 7), .move (.tmp 10), none⟩, (.int .i64))]) <|
    .seq (.reg [(⟨(some 11), .move (.tmp 7), none⟩, (.int .i64)),
        (⟨(some 12), .bin .neq (.tmp 11) (.const (.int .i64 0)), none⟩, .bool)]) <|
    .cond (.tmp 12)
      (.seq (.reg [(⟨(some 13), .move (.tmp 7), none⟩, (.int .i64)),
          (⟨(some 6), .move (.tmp 13), none⟩, (.int .i64))]) <|
      .ret)
      (.skip)) <|
  .seq (.seq (.cutn [(21, .bool)] <|
        .reg [(⟨(some 14), .move (.tmp 2), none⟩, (.int .i64)),
          (⟨(some 15), .bin .lss (.tmp 14) (.const (.int .i64 0)), none⟩, .bool),
          (⟨(some 16), .move (.tmp 15), none⟩, .bool),
          (⟨(some 17), .move (.tmp 2), some (16, false)⟩, (.int .i64)),
          (⟨(some 18), .fieldAddr 0 (.tmp 4), some (16, false)⟩, .ptr),
          (⟨(some 19), .load false 1 (.tmp 18), some (16, false)⟩, (.int .i64)),
          (⟨(some 20), .bin .geq (.tmp 17) (.tmp 19), some (16, false)⟩, .bool),
          (⟨(some 21), .pick (.tmp 16) (.const (.bool true)) (.tmp 20), none⟩, .bool)]) <|
    .cond (.tmp 21)
      (.seq (.reg [(⟨(some 6), .move (.const (.int .i64 51)), none⟩, (.int .i64))]) <|
      .ret)
      (.skip)) <|
  .seq (.reg [(⟨(some 6), .move (.const (.int .i64 0)), none⟩, (.int .i64))]) <|
  .ret
noncomputable def sf_home_has (n : Nat) : Sf := sfOf [(k_home_fits, s_home_fits n)]
noncomputable def it_home_has (n : Nat) : It := itOf []
def f_home_has (n : Nat) (u0 : Option Addr) (u1 : Value) (u2 : Int) (h : Heap) : Option ((Int × Unit) × Heap) :=
  bif (cellsOf u1).all isCell then
    (bnd ((Heap.new h (.cells (cellsOf u1) false 0))) fun h0 =>
    (ldA 5 h0 (some (nwA h))).bind fun cs1 =>
    (f_home_fits n u0 (.agg ⟨cs1⟩) h0).bind fun p2 =>
    bif (!decide (p2.1.1 = 0)) then
      (some ((p2.1.1, ()), p2.2))
    else
      (((bif (decide (u2 < 0)) then
          (some ((true, ()), p2.2))
        else
          ((ldT (.int .i64) p2.2 (some (fa (nwA h) 0))).bind fun x3 =>
          some (((decide (x3 ≤ u2)), ()), p2.2))) : Option ((Bool × Unit) × Heap)).bind fun a4 =>
      bif a4.1.1 then
        (some ((51, ()), a4.2))
      else
        (some ((0, ()), a4.2))))
  else
    (none)
def rs_home_has : Rs := [(.tmp 6, (.int .i64))]
def ps_home_has : List Ty := [.ptr, .any, (.int .i64)]
theorem e_home_has (n : Nat) (u0 : Option Addr) (u1 : Value) (u2 : Int) (h : Heap) : f_home_has n u0 u1 u2 h = fB (sf_home_has n) (it_home_has n) n c2_home_has rs_home_has ps_home_has (u0, (u1, (u2, ()))) h := by kernel_rfl
noncomputable def s_home_has (n : Nat) : Sf1 := mkSf ps_home_has rs_home_has fun a h => f_home_has n a.1 a.2.1 a.2.2.1 h

/- wicket/wicketlaw08.HomeBytes -/
def c2_wicketlaw08_HomeBytes : C2 :=
  .seq (.reg [(⟨(some 4), .box (.tmp 1), none⟩, .ptr),
      (⟨(some 6), .move (.const (.bool false)), none⟩, .bool)]) <|
  .seq (.seq (.reg [(⟨(some 20), .call k_wicketlaw08_awake [], none⟩, .bool),
        (⟨(some 21), .un .not (.tmp 20), none⟩, .bool)]) <|
    .cond (.tmp 21)
      (.seq (.reg [(⟨(some 6), .move (.const (.bool false)), none⟩, .bool)]) <|
      .ret)
      (.skip)) <|
  .seq (.reg [(⟨(some 23), .move (.tmp 0), none⟩, (.int .i64)),
      (⟨(some 24), .load true 32 (.tmp 4), none⟩, .any),
      (⟨(some 25), .call k_wicketref08_Encode [(.tmp 23), (.tmp 24)], none⟩, .any),
      (⟨(some 22), .move (.tmp 25), none⟩, .any),
      (⟨(some 26), .extract (.tmp 22) 0, none⟩, .any),
      (⟨(some 27), .extract (.tmp 22) 1, none⟩, (.int .i64)),
      (⟨(some 7), .move (.tmp 26), none⟩, .any),
      (⟨(some 8), .move (.tmp 27), none⟩, (.int .i64))]) <|
  .seq (.reg [(⟨(some 29), .move (.tmp 2), none⟩, .any),
      (⟨(some 30), .move (.tmp 0), none⟩, (.int .i64)),
      (⟨(some 31), .call k_wicketref08_Decode [(.tmp 29), (.tmp 30)], none⟩, .any),
      (⟨(some 28), .move (.tmp 31), none⟩, .any),
      (⟨(some 32), .extract (.tmp 28) 0, none⟩, .any),
      (⟨(some 33), .extract (.tmp 28) 1, none⟩, (.int .i64)),
      (⟨(some 9), .alloc (List.replicate 32 (.int .u8 0)), none⟩, .ptr),
      (⟨none, .store 32 (.tmp 9) (.tmp 32), none⟩, .any),
      (⟨(some 10), .move (.tmp 33), none⟩, (.int .i64))]) <|
  .seq (.reg [(⟨(some 35), .move (.tmp 0), none⟩, (.int .i64)),
      (⟨(some 36), .load true 32 (.tmp 4), none⟩, .any),
      (⟨(some 37), .call k_home_Encode [(.tmp 35), (.tmp 36)], none⟩, .any),
      (⟨(some 34), .move (.tmp 37), none⟩, .any),
      (⟨(some 38), .extract (.tmp 34) 0, none⟩, .any),
      (⟨(some 39), .extract (.tmp 34) 1, none⟩, (.int .i64)),
      (⟨(some 11), .move (.tmp 38), none⟩, .any),
      (⟨(some 12), .move (.tmp 39), none⟩, (.int .i64))]) <|
  .seq (.reg [(⟨(some 40), .move (.tmp 2), none⟩, .any),
      (⟨(some 41), .call k_wicketlaw01_Roomy [(.tmp 40)], none⟩, .any),
      (⟨(some 13), .move (.tmp 41), none⟩, .any)]) <|
  .seq (.reg [(⟨(some 43), .move (.tmp 13), none⟩, .any),
      (⟨(some 44), .move (.tmp 0), none⟩, (.int .i64)),
      (⟨(some 45), .call k_home_Decode [(.tmp 43), (.tmp 44)], none⟩, .any),
      (⟨(some 42), .move (.tmp 45), none⟩, .any),
      (⟨(some 46), .extract (.tmp 42) 0, none⟩, .any),
      (⟨(some 47), .extract (.tmp 42) 1, none⟩, (.int .i64)),
      (⟨(some 14), .alloc (List.replicate 32 (.int .u8 0)), none⟩, .ptr),
      (⟨none, .store 32 (.tmp 14) (.tmp 46), none⟩, .any),
      (⟨(some 15), .move (.tmp 47), none⟩, (.int .i64))]) <|
  .seq (.seq (.cutn [(67, .bool)] <|
        .reg [(⟨(some 48), .move (.tmp 11), none⟩, .any),
          (⟨(some 49), .toStr (.tmp 48), none⟩, .any),
          (⟨(some 50), .move (.tmp 7), none⟩, .any),
          (⟨(some 51), .toStr (.tmp 50), none⟩, .any),
          (⟨(some 52), .bins .neq (.tmp 49) (.tmp 51), none⟩, .bool),
          (⟨(some 53), .move (.tmp 52), none⟩, .bool),
          (⟨(some 54), .move (.tmp 12), some (53, false)⟩, (.int .i64)),
          (⟨(some 55), .move (.tmp 8), some (53, false)⟩, (.int .i64)),
          (⟨(some 56), .bin .neq (.tmp 54) (.tmp 55), some (53, false)⟩, .bool),
          (⟨(some 57), .pick (.tmp 53) (.const (.bool true)) (.tmp 56), none⟩, .bool),
          (⟨(some 58), .move (.tmp 57), none⟩, .bool),
          (⟨(some 59), .load true 32 (.tmp 14), some (58, false)⟩, .any),
          (⟨(some 60), .load true 32 (.tmp 9), some (58, false)⟩, .any),
          (⟨(some 61), .eqv true (.agg (List.replicate 32 false)) (.tmp 59) (.tmp 60), some (58, false)⟩, .bool),
          (⟨(some 62), .pick (.tmp 58) (.const (.bool true)) (.tmp 61), none⟩, .bool),
          (⟨(some 63), .move (.tmp 62), none⟩, .bool),
          (⟨(some 64), .move (.tmp 15), some (63, false)⟩, (.int .i64)),
          (⟨(some 65), .move (.tmp 10), some (63, false)⟩, (.int .i64)),
          (⟨(some 66), .bin .neq (.tmp 64) (.tmp 65), some (63, false)⟩, .bool),
          (⟨(some 67), .pick (.tmp 63) (.const (.bool true)) (.tmp 66), none⟩, .bool)]) <|
    .cond (.tmp 67)
      (.seq (.reg [(⟨(some 6), .move (.const (.bool false)), none⟩, .bool)]) <|
      .ret)
      (.skip)) <|
  .seq (.reg [(⟨(some 69), .move (.tmp 0), none⟩, (.int .i64)),
      (⟨(some 70), .load true 32 (.tmp 4), none⟩, .any),
      (⟨(some 71), .call k_home_Encode [(.tmp 69), (.tmp 70)], none⟩, .any),
      (⟨(some 68), .move (.tmp 71), none⟩, .any),
      (⟨(some 72), .extract (.tmp 68) 0, none⟩, .any),
      (⟨(some 73), .extract (.tmp 68) 1, none⟩, (.int .i64)),
      (⟨(some 16), .move (.tmp 72), none⟩, .any),
      (⟨(some 17), .move (.tmp 73), none⟩, (.int .i64))]) <|
  .seq (.seq (.reg [(⟨(some 74), .move (.tmp 16), none⟩, .any),
        (⟨(some 75), .toStr (.tmp 74), none⟩, .any),
        (⟨(some 76), .move (.tmp 7), none⟩, .any),
        (⟨(some 77), .toStr (.tmp 76), none⟩, .any),
        (⟨(some 78), .bins .neq (.tmp 75) (.tmp 77), none⟩, .bool)]) <|
    .cond (.tmp 78)
      (.seq (.reg [(⟨(some 6), .move (.const (.bool false)), none⟩, .bool)]) <|
      .ret)
      (.skip)) <|
  .seq (.reg [(⟨(some 80), .build (List.replicate 32 (.int .u8 0)) [(0, 1, (.const (.int .u8 9)))], none⟩, .any),
      (⟨(some 81), .call k_home_Encode [(.const (.int .i64 5)), (.tmp 80)], none⟩, .any),
      (⟨(some 79), .move (.tmp 81), none⟩, .any),
      (⟨(some 82), .extract (.tmp 79) 0, none⟩, .any),
      (⟨(some 83), .extract (.tmp 79) 1, none⟩, (.int .i64)),
      (⟨(some 18), .move (.tmp 82), none⟩, .any),
      (⟨(some 19), .move (.tmp 83), none⟩, (.int .i64))]) <|
  .seq (.reg [(⟨(some 85), .move (.tmp 13), none⟩, .any),
      (⟨(some 86), .move (.tmp 0), none⟩, (.int .i64)),
      (⟨(some 87), .call k_home_Decode [(.tmp 85), (.tmp 86)], none⟩, .any),
      (⟨(some 84), .move (.tmp 87), none⟩, .any),
      (⟨(some 88), .extract (.tmp 84) 0, none⟩, .any),
      (⟨(some 89), .extract (.tmp 84) 1, none⟩, (.int .i64)),
      (⟨none, .store 32 (.tmp 14) (.tmp 88), none⟩, .any)]) <|
  .seq (.seq (.cutn [(112, .bool)] <|
        .reg [(⟨(some 90), .load true 32 (.tmp 14), none⟩, .any),
          (⟨(some 91), .load true 32 (.tmp 9), none⟩, .any),
          (⟨(some 92), .eqv true (.agg (List.replicate 32 false)) (.tmp 90) (.tmp 91), none⟩, .bool),
          (⟨(some 93), .move (.tmp 92), none⟩, .bool),
          (⟨(some 94), .move (.tmp 11), some (93, false)⟩, .any),
          (⟨(some 95), .toStr (.tmp 94), some (93, false)⟩, .any),
          (⟨(some 96), .move (.tmp 7), some (93, false)⟩, .any),
          (⟨(some 97), .toStr (.tmp 96), some (93, false)⟩, .any),
          (⟨(some 98), .bins .neq (.tmp 95) (.tmp 97), some (93, false)⟩, .bool),
          (⟨(some 99), .pick (.tmp 93) (.const (.bool true)) (.tmp 98), none⟩, .bool),
          (⟨(some 100), .move (.tmp 99), none⟩, .bool),
          (⟨(some 101), .move (.tmp 16), some (100, false)⟩, .any),
          (⟨(some 102), .toStr (.tmp 101), some (100, false)⟩, .any),
          (⟨(some 103), .move (.tmp 7), some (100, false)⟩, .any),
          (⟨(some 104), .toStr (.tmp 103), some (100, false)⟩, .any),
          (⟨(some 105), .bins .neq (.tmp 102) (.tmp 104), some (100, false)⟩, .bool),
          (⟨(some 106), .pick (.tmp 100) (.const (.bool true)) (.tmp 105), none⟩, .bool),
          (⟨(some 107), .move (.tmp 106), none⟩, .bool),
          (⟨(some 108), .move (.tmp 13), some (107, false)⟩, .any),
          (⟨(some 109), .move (.tmp 2), some (107, false)⟩, .any),
          (⟨(some 110), .call k_wicketlaw01_Held [(.tmp 108), (.tmp 109)], some (107, false)⟩, .bool),
          (⟨(some 111), .un .not (.tmp 110), some (107, false)⟩, .bool),
          (⟨(some 112), .pick (.tmp 107) (.const (.bool true)) (.tmp 111), none⟩, .bool)]) <|
    .cond (.tmp 112)
      (.seq (.reg [(⟨(some 6), .move (.const (.bool false)), none⟩, .bool)]) <|
      .ret)
      (.skip)) <|
  .seq (.reg [(⟨(some 113), .move (.tmp 13), none⟩, .any),
      (⟨(some 114), .call k_wicketlaw01_Turn [(.tmp 113)], none⟩, .any)]) <|
  .seq (.reg [(⟨(some 116), .move (.tmp 13), none⟩, .any),
      (⟨(some 117), .call k_wicketlaw01_Own [(.tmp 116)], none⟩, .any),
      (⟨(some 118), .move (.tmp 0), none⟩, (.int .i64)),
      (⟨(some 119), .call k_wicketref08_Decode [(.tmp 117), (.tmp 118)], none⟩, .any),
      (⟨(some 115), .move (.tmp 119), none⟩, .any),
      (⟨(some 120), .extract (.tmp 115) 0, none⟩, .any),
      (⟨(some 121), .extract (.tmp 115) 1, none⟩, (.int .i64)),
      (⟨none, .store 32 (.tmp 9) (.tmp 120), none⟩, .any),
      (⟨(some 10), .move (.tmp 121), none⟩, (.int .i64))]) <|
  .seq (.reg [(⟨(some 123), .move (.tmp 13), none⟩, .any),
      (⟨(some 124), .move (.tmp 0), none⟩, (.int .i64)),
      (⟨(some 125), .call k_home_Decode [(.tmp 123), (.tmp 124)], none⟩, .any),
      (⟨(some 122), .move (.tmp 125), none⟩, .any),
      (⟨(some 126), .extract (.tmp 122) 0, none⟩, .any),
      (⟨(some 127), .extract (.tmp 122) 1, none⟩, (.int .i64)),
      (⟨none, .store 32 (.tmp 14) (.tmp 126), none⟩, .any),
      (⟨(some 15), .move (.tmp 127), none⟩, (.int .i64))]) <|
  .seq (.reg [(⟨(some 128), .load true 32 (.tmp 14), none⟩, .any),
      (⟨(some 129), .load true 32 (.tmp 9), none⟩, .any),
      (⟨(some 130), .eqv false (.agg (List.replicate 32 false)) (.tmp 128) (.tmp 129), none⟩, .bool),
      (⟨(some 131), .move (.tmp 130), none⟩, .bool),
      (⟨(some 132), .move (.tmp 15), some (131, true)⟩, (.int .i64)),
      (⟨(some 133), .move (.tmp 10), some (131, true)⟩, (.int .i64)),
      (⟨(some 134), .bin .eql (.tmp 132) (.tmp 133), some (131, true)⟩, .bool),
      (⟨(some 135), .pick (.tmp 131) (.tmp 134) (.const (.bool false)), none⟩, .bool),
      (⟨(some 136), .move (.tmp 135), none⟩, .bool),
      (⟨(some 137), .move (.tmp 11), some (136, true)⟩, .any),
      (⟨(some 138), .move (.tmp 16), some (136, true)⟩, .any),
      (⟨(some 139), .move (.tmp 18), some (136, true)⟩, .any),
      (⟨(some 140), .buildSlice 3 1 [(.slice none 0 0), (.slice none 0 0), (.slice none 0 0)] [(0, 1, (.tmp 137)), (1, 1, (.tmp 138)), (2, 1, (.tmp 139))], some (136, true)⟩, .any),
      (⟨(some 141), .call k_wicketlaw01_Apart [(.tmp 140)], some (136, true)⟩, .bool),
      (⟨(some 142), .pick (.tmp 136) (.tmp 141) (.const (.bool false)), none⟩, .bool),
      (⟨(some 6), .move (.tmp 142), none⟩, .bool)]) <|
  .ret
noncomputable def sf_wicketlaw08_HomeBytes (n : Nat) : Sf := sfOf [(k_wicketlaw08_awake, s_wicketlaw08_awake n), (k_wicketref08_Encode, s_wicketref08_Encode n), (k_wicketref08_Decode, s_wicketref08_Decode n), (k_home_Encode, s_home_Encode n), (k_wicketlaw01_Roomy, s_wicketlaw01_Roomy n), (k_home_Decode, s_home_Decode n), (k_wicketlaw01_Held, s_wicketlaw01_Held n), (k_wicketlaw01_Turn, s_wicketlaw01_Turn n), (k_wicketlaw01_Own, s_wicketlaw01_Own n), (k_wicketlaw01_Apart, s_wicketlaw01_Apart n)]
noncomputable def it_wicketlaw08_HomeBytes (n : Nat) : It := itOf []
def f_wicketlaw08_HomeBytes (n : Nat) (u0 : Int) (u1 : Value) (u2 : Value) (h : Heap) : Option ((Bool × Unit) × Heap) :=
  bif (cellsOf u1).all isCell then
    (bnd ((Heap.new h (.cells (cellsOf u1) false 0))) fun h0 =>
    (f_wicketlaw08_awake n h0).bind fun p1 =>
    bif (!p1.1.1) then
      (some ((false, ()), p1.2))
    else
      ((ldA 32 p1.2 (some (nwA h))).bind fun cs2 =>
      (f_wicketref08_Encode n u0 (.agg ⟨cs2⟩) p1.2).bind fun p3 =>
      (f_wicketref08_Decode n u2 u0 p3.2).bind fun p4 =>
      bnd ((Heap.new p4.2 (.cells (List.replicate 32 (.int .u8 0)) false 0))) fun h5 =>
      (stB 32 p4.1.1 h5 (some (nwA p4.2))).bind fun h6 =>
      (ldA 32 h6 (some (nwA h))).bind fun cs7 =>
      (f_home_Encode n u0 (.agg ⟨cs7⟩) h6).bind fun p8 =>
      (f_wicketlaw01_Roomy n u2 p8.2).bind fun p9 =>
      (f_home_Decode n p9.1.1 u0 p9.2).bind fun p10 =>
      bnd ((Heap.new p10.2 (.cells (List.replicate 32 (.int .u8 0)) false 0))) fun h11 =>
      (stB 32 p10.1.1 h11 (some (nwA p10.2))).bind fun h12 =>
      (((toStrK h12 p8.1.1).bind fun p13 =>
        (toStrK h12 p3.1.1).bind fun p14 =>
        (binsT .bool h12 .neq p13.1 p14.1).bind fun x15 =>
        bif x15 then
          (some ((true, ()), h12))
        else
          (bif (!decide (p8.1.2.1 = p3.1.2.1)) then
            (some ((true, ()), h12))
          else
            ((ldA 32 h12 (some (nwA p10.2))).bind fun cs16 =>
            (ldA 32 h12 (some (nwA p4.2))).bind fun cs17 =>
            (eqVals h12 (.agg (List.replicate 32 false)) (.agg ⟨cs16⟩) (.agg ⟨cs17⟩)).bind fun b18 =>
            bif (!b18) then
              (some ((true, ()), h12))
            else
              (some (((!decide (p10.1.2.1 = p4.1.2.1)), ()), h12))))) : Option ((Bool × Unit) × Heap)).bind fun a19 =>
      bif a19.1.1 then
        (some ((false, ()), a19.2))
      else
        ((ldA 32 a19.2 (some (nwA h))).bind fun cs20 =>
        (f_home_Encode n u0 (.agg ⟨cs20⟩) a19.2).bind fun p21 =>
        (toStrK p21.2 p21.1.1).bind fun p22 =>
        (toStrK p21.2 p3.1.1).bind fun p23 =>
        (binsT .bool p21.2 .neq p22.1 p23.1).bind fun x24 =>
        bif x24 then
          (some ((false, ()), p21.2))
        else
          ((fillL (List.replicate 32 (.int .u8 0)) [(0, 1, (.int .u8 9))]).bind fun cs25 =>
          (f_home_Encode n 5 (.agg ⟨cs25⟩) p21.2).bind fun p26 =>
          (f_home_Decode n p9.1.1 u0 p26.2).bind fun p27 =>
          (stB 32 p27.1.1 p27.2 (some (nwA p10.2))).bind fun h28 =>
          (((ldA 32 h28 (some (nwA p10.2))).bind fun cs29 =>
            (ldA 32 h28 (some (nwA p4.2))).bind fun cs30 =>
            (eqVals h28 (.agg (List.replicate 32 false)) (.agg ⟨cs29⟩) (.agg ⟨cs30⟩)).bind fun b31 =>
            bif (!b31) then
              (some ((true, ()), h28))
            else
              ((toStrK h28 p8.1.1).bind fun p32 =>
              (toStrK h28 p3.1.1).bind fun p33 =>
              (binsT .bool h28 .neq p32.1 p33.1).bind fun x34 =>
              bif x34 then
                (some ((true, ()), h28))
              else
                ((toStrK h28 p21.1.1).bind fun p35 =>
                (toStrK h28 p3.1.1).bind fun p36 =>
                (binsT .bool h28 .neq p35.1 p36.1).bind fun x37 =>
                bif x37 then
                  (some ((true, ()), h28))
                else
                  ((f_wicketlaw01_Held n p9.1.1 u2 h28).bind fun p38 =>
                  some (((!p38.1.1), ()), p38.2))))) : Option ((Bool × Unit) × Heap)).bind fun a39 =>
          bif a39.1.1 then
            (some ((false, ()), a39.2))
          else
            ((f_wicketlaw01_Turn n p9.1.1 a39.2).bind fun p40 =>
            (f_wicketlaw01_Own n p9.1.1 p40.2).bind fun p41 =>
            (f_wicketref08_Decode n p41.1.1 u0 p41.2).bind fun p42 =>
            (stB 32 p42.1.1 p42.2 (some (nwA p4.2))).bind fun h43 =>
            (f_home_Decode n p9.1.1 u0 h43).bind fun p44 =>
            (stB 32 p44.1.1 p44.2 (some (nwA p10.2))).bind fun h45 =>
            (ldA 32 h45 (some (nwA p10.2))).bind fun cs46 =>
            (ldA 32 h45 (some (nwA p4.2))).bind fun cs47 =>
            (eqVals h45 (.agg (List.replicate 32 false)) (.agg ⟨cs46⟩) (.agg ⟨cs47⟩)).bind fun b48 =>
            bif b48 then
              (bif (decide (p44.1.2.1 = p42.1.2.1)) then
                ((fillL [(.slice none 0 0), (.slice none 0 0), (.slice none 0 0)] [(0, 1, p8.1.1), (1, 1, p21.1.1), (2, 1, p26.1.1)]).bind fun cs49 =>
                bnd ((Heap.new h45 (.cells cs49 false 1))) fun h50 =>
                (f_wicketlaw01_Apart n (.slice (some ⟨Heap.next h45, 0, some 0⟩) 3 3) h50).bind fun p51 =>
                some ((p51.1.1, ()), p51.2))
              else
                (some ((false, ()), h45)))
            else
              (some ((false, ()), h45)))))))
  else
    (none)
def rs_wicketlaw08_HomeBytes : Rs := [(.tmp 6, .bool)]
def ps_wicketlaw08_HomeBytes : List Ty := [(.int .i64), .any, .any]
theorem e_wicketlaw08_HomeBytes (n : Nat) (u0 : Int) (u1 : Value) (u2 : Value) (h : Heap) : f_wicketlaw08_HomeBytes n u0 u1 u2 h = fB (sf_wicketlaw08_HomeBytes n) (it_wicketlaw08_HomeBytes n) n c2_wicketlaw08_HomeBytes rs_wicketlaw08_HomeBytes ps_wicketlaw08_HomeBytes (u0, (u1, (u2, ()))) h := by kernel_rfl
noncomputable def s_wicketlaw08_HomeBytes (n : Nat) : Sf1 := mkSf ps_wicketlaw08_HomeBytes rs_wicketlaw08_HomeBytes fun a h => f_wicketlaw08_HomeBytes n a.1 a.2.1 a.2.2.1 h

/- wicket/home.New -/
def c2_home_New : C2 :=
  .seq (.reg [(⟨(some 1), .box (.tmp 0), none⟩, .ptr),
      (⟨(some 2), .move (.const (.pointer none)), none⟩, .ptr),
      (⟨(some 3), .move (.const (.int .i64 0)), none⟩, (.int .i64))]) <|
  .seq (.reg [(⟨(some 11), .load true 5 (.tmp 1), none⟩, .any),
      (⟨(some 12), .build [(.int .i64 0), (.int .i64 0), (.int .i64 0), (.int .i64 0), (.int .i64 0), (.int .u64 0), (.int .u64 0)] [(0, 5, (.tmp 11)), (6, 1, (.const (.int .u64 1)))], none⟩, .any),
      (⟨(some 13), .call k_super_Encode [(.tmp 12)], none⟩, .any),
      (⟨(some 10), .move (.tmp 13), none⟩, .any),
      (⟨(some 14), .extract (.tmp 10) 0, none⟩, .any),
      (⟨(some 15), .extract (.tmp 10) 1, none⟩, (.int .i64)),
      (⟨(some 4), .move (.tmp 14), none⟩, .any),
      (⟨(some 5), .move (.tmp 15), none⟩, (.int .i64))]) <|
  .seq (.seq (.reg [(⟨(some 16), .move (.tmp 5), none⟩, (.int .i64)),
        (⟨(some 17), .bin .neq (.tmp 16) (.const (.int .i64 0)), none⟩, .bool)]) <|
    .cond (.tmp 17)
      (.seq (.reg [(⟨(some 18), .move (.tmp 5), none⟩, (.int .i64)),
          (⟨(some 2), .move (.const (.pointer none)), none⟩, .ptr),
          (⟨(some 3), .move (.tmp 18), none⟩, (.int .i64))]) <|
      .ret)
      (.skip)) <|
  .seq (.reg [(⟨(some 19), .move (.tmp 4), none⟩, .any),
      (⟨(some 6), .move (.tmp 19), none⟩, .any)]) <|
  .seq (.cut [(6, .any)] <|
      .seq (.reg [(⟨(some 20), .fieldAddr 0 (.tmp 1), none⟩, .ptr),
          (⟨(some 21), .load false 1 (.tmp 20), none⟩, (.int .i64)),
          (⟨(some 22), .move (.const (.int .i64 0)), none⟩, (.int .i64))]) <|
      .block 0 <|
        .loop [(6, .any), (22, (.int .i64))] <|
          .seq (.reg [(⟨(some 23), .bin .lss (.tmp 22) (.tmp 21), none⟩, .bool)]) <|
          .seq (.cond (.tmp 23)
              (.skip)
              (.exit 0)) <|
          .seq (.block 1 <|
              .seq (.reg [(⟨(some 24), .move (.tmp 22), none⟩, (.int .i64)),
                  (⟨(some 7), .move (.tmp 24), none⟩, (.int .i64))]) <|
              .seq (.reg [(⟨(some 26), .move (.tmp 7), none⟩, (.int .i64)),
                  (⟨(some 27), .build (List.replicate 32 (.int .u8 0)) [], none⟩, .any),
                  (⟨(some 28), .call k_home_Encode [(.tmp 26), (.tmp 27)], none⟩, .any),
                  (⟨(some 25), .move (.tmp 28), none⟩, .any),
                  (⟨(some 29), .extract (.tmp 25) 0, none⟩, .any),
                  (⟨(some 30), .extract (.tmp 25) 1, none⟩, (.int .i64)),
                  (⟨(some 8), .move (.tmp 29), none⟩, .any),
                  (⟨(some 9), .move (.tmp 30), none⟩, (.int .i64))]) <|
              .seq (.seq (.reg [(⟨(some 31), .move (.tmp 9), none⟩, (.int .i64)),
                    (⟨(some 32), .bin .neq (.tmp 31) (.const (.int .i64 0)), none⟩, .bool)]) <|
                .cond (.tmp 32)
                  (.seq (.reg [(⟨(some 33), .move (.tmp 9), none⟩, (.int .i64)),
                      (⟨(some 2), .move (.const (.pointer none)), none⟩, .ptr),
                      (⟨(some 3), .move (.tmp 33), none⟩, (.int .i64))]) <|
                  .ret)
                  (.skip)) <|
              .reg [(⟨(some 34), .move (.tmp 6), none⟩, .any),
                (⟨(some 35), .move (.tmp 8), none⟩, .any),
                (⟨(some 36), .buildSlice 2 1 [(.slice none 0 0), (.slice none 0 0)] [(0, 1, (.tmp 34)), (1, 1, (.tmp 35))], none⟩, .any),
                (⟨(some 37), .call k_octet_Join [(.tmp 36)], none⟩, .any),
                (⟨(some 6), .move (.tmp 37), none⟩, .any)]) <|
          .reg [(⟨(some 38), .bin .add (.tmp 22) (.const (.int .i64 1)), none⟩, (.int .i64)),
            (⟨(some 22), .move (.tmp 38), none⟩, (.int .i64))]) <|
  .seq (.reg [(⟨(some 39), .move (.tmp 6), none⟩, .any),
      (⟨(some 40), .fieldAddr 1 (.tmp 1), none⟩, .ptr),
      (⟨(some 41), .load false 1 (.tmp 40), none⟩, (.int .i64)),
      (⟨(some 42), .bin .mul (.const (.int .i64 64)) (.tmp 41), none⟩, (.int .i64)),
      (⟨(some 43), .makeSlice 1 1 [(.int .u8 0)] (.tmp 42) (.tmp 42), none⟩, .any),
      (⟨(some 44), .buildSlice 2 1 [(.slice none 0 0), (.slice none 0 0)] [(0, 1, (.tmp 39)), (1, 1, (.tmp 43))], none⟩, .any),
      (⟨(some 45), .call k_octet_Join [(.tmp 44)], none⟩, .any),
      (⟨(some 46), .call k_sector_Load [(.tmp 45)], none⟩, .any),
      (⟨(some 47), .extract (.tmp 46) 0, none⟩, .ptr),
      (⟨(some 48), .extract (.tmp 46) 1, none⟩, (.int .i64)),
      (⟨(some 2), .move (.tmp 47), none⟩, .ptr),
      (⟨(some 3), .move (.tmp 48), none⟩, (.int .i64))]) <|
  .ret
def f_home_New_L14 (n : Nat) (x5 : Int) (v6 : Value) (v7 : Int) (h8 : Heap) : Option (((Value × Int × Unit) × Heap) ⊕ (((Value × Unit) × Heap) ⊕ ((Option Addr × Int × Unit) × Heap))) :=
  bif (decide (v7 < x5)) then
    ((fillL (List.replicate 32 (.int .u8 0)) []).bind fun cs9 =>
    (f_home_Encode n v7 (.agg ⟨cs9⟩) h8).bind fun p10 =>
    bif (!decide (p10.1.2.1 = 0)) then
      (some (.inr (.inr ((none, (p10.1.2.1, ())), p10.2))))
    else
      ((fillL [(.slice none 0 0), (.slice none 0 0)] [(0, 1, v6), (1, 1, p10.1.1)]).bind fun cs11 =>
      bnd ((Heap.new p10.2 (.cells cs11 false 1))) fun h12 =>
      (f_octet_Join n (.slice (some ⟨Heap.next p10.2, 0, some 0⟩) 2 2) h12).bind fun p13 =>
      some (.inl ((p13.1.1, ((IntKind.i64.wrap (v7 + 1)), ())), p13.2))))
  else
    (some (.inr (.inl ((v6, ()), h8))))
def f_home_New_C15 (n : Nat) (h : Heap) (p3 : ((Value × Int × Unit) × Heap)) (h4 : Heap) : Option (((Value × Unit) × Heap) ⊕ ((Option Addr × Int × Unit) × Heap)) :=
  (ldT (.int .i64) h4 (some (fa (nwA h) 0))).bind fun x5 =>
  loopT (fun a => f_home_New_L14 n x5 a.1.1 a.1.2.1 a.2) n ((p3.1.1, (0, ())), h4)
noncomputable def sf_home_New (n : Nat) : Sf := sfOf [(k_super_Encode, s_super_Encode n), (k_home_Encode, s_home_Encode n), (k_octet_Join, s_octet_Join n), (k_sector_Load, s_sector_Load n)]
noncomputable def it_home_New (n : Nat) : It := itOf []
def f_home_New (n : Nat) (u0 : Value) (h : Heap) : Option ((Option Addr × Int × Unit) × Heap) :=
  bif (cellsOf u0).all isCell then
    (bnd ((Heap.new h (.cells (cellsOf u0) false 0))) fun h0 =>
    (ldA 5 h0 (some (nwA h))).bind fun cs1 =>
    (fillL [(.int .i64 0), (.int .i64 0), (.int .i64 0), (.int .i64 0), (.int .i64 0), (.int .u64 0), (.int .u64 0)] [(0, 5, (.agg ⟨cs1⟩)), (6, 1, (.int .u64 1))]).bind fun cs2 =>
    (f_super_Encode n (.agg ⟨cs2⟩) h0).bind fun p3 =>
    bif (!decide (p3.1.2.1 = 0)) then
      (some ((none, (p3.1.2.1, ())), p3.2))
    else
      (thenB (f_home_New_C15 n h p3 (p3.2)) fun a16 =>
      (ldT (.int .i64) a16.2 (some (fa (nwA h) 1))).bind fun x17 =>
      (mkSl (Heap.next a16.2) 1 1 [(.int .u8 0)] (.int .i64 (IntKind.i64.wrap (64 * x17))) (.int .i64 (IntKind.i64.wrap (64 * x17)))).bind fun p18 =>
      bnd ((Heap.new a16.2 (p18.2))) fun h19 =>
      (fillL [(.slice none 0 0), (.slice none 0 0)] [(0, 1, a16.1.1), (1, 1, p18.1)]).bind fun cs20 =>
      bnd ((Heap.new h19 (.cells cs20 false 1))) fun h21 =>
      (f_octet_Join n (.slice (some ⟨Heap.next h19, 0, some 0⟩) 2 2) h21).bind fun p22 =>
      (f_sector_Load n p22.1.1 p22.2).bind fun p23 =>
      some ((p23.1.1, (p23.1.2.1, ())), p23.2)))
  else
    (none)
def rs_home_New : Rs := [(.tmp 2, .ptr), (.tmp 3, (.int .i64))]
def ps_home_New : List Ty := [.any]
theorem e_home_New (n : Nat) (u0 : Value) (h : Heap) : f_home_New n u0 h = fB (sf_home_New n) (it_home_New n) n c2_home_New rs_home_New ps_home_New (u0, ()) h := by kernel_rfl
noncomputable def s_home_New (n : Nat) : Sf1 := mkSf ps_home_New rs_home_New fun a h => f_home_New n a.1 h

/- wicket/home.Save -/
def c2_home_Save : C2 :=
  .seq (.reg [(⟨(some 5), .box (.tmp 1), none⟩, .ptr),
      (⟨(some 7), .box (.tmp 3), none⟩, .ptr),
      (⟨(some 8), .move (.const (.int .i64 0)), none⟩, (.int .i64))]) <|
  .seq (.seq (.reg [(⟨(some 12), .move (.tmp 0), none⟩, .ptr),
        (⟨(some 13), .load true 5 (.tmp 5), none⟩, .any),
        (⟨(some 14), .move (.tmp 2), none⟩, (.int .i64)),
        (⟨(some 15), .call k_home_has [(.tmp 12), (.tmp 13), (.tmp 14)], none⟩, (.int .i64)),
        (⟨(some 9), .move (.tmp 15), none⟩, (.int .i64))]) <|
    .seq (.reg [(⟨(some 16), .move (.tmp 9), none⟩, (.int .i64)),
        (⟨(some 17), .bin .neq (.tmp 16) (.const (.int .i64 0)), none⟩, .bool)]) <|
    .cond (.tmp 17)
      (.seq (.reg [(⟨(some 18), .move (.tmp 9), none⟩, (.int .i64)),
          (⟨(some 8), .move (.tmp 18), none⟩, (.int .i64))]) <|
      .ret)
      (.skip)) <|
  .seq (.reg [(⟨(some 20), .move (.tmp 2), none⟩, (.int .i64)),
      (⟨(some 21), .load true 32 (.tmp 7), none⟩, .any),
      (⟨(some 22), .call k_home_Encode [(.tmp 20), (.tmp 21)], none⟩, .any),
      (⟨(some 19), .move (.tmp 22), none⟩, .any),
      (⟨(some 23), .extract (.tmp 19) 0, none⟩, .any),
      (⟨(some 24), .extract (.tmp 19) 1, none⟩, (.int .i64)),
      (⟨(some 10), .move (.tmp 23), none⟩, .any),
      (⟨(some 11), .move (.tmp 24), none⟩, (.int .i64))]) <|
  .seq (.seq (.reg [(⟨(some 25), .move (.tmp 11), none⟩, (.int .i64)),
        (⟨(some 26), .bin .neq (.tmp 25) (.const (.int .i64 0)), none⟩, .bool)]) <|
    .cond (.tmp 26)
      (.seq (.reg [(⟨(some 27), .move (.tmp 11), none⟩, (.int .i64)),
          (⟨(some 8), .move (.tmp 27), none⟩, (.int .i64))]) <|
      .ret)
      (.skip)) <|
  .seq (.reg [(⟨(some 28), .move (.tmp 0), none⟩, .ptr),
      (⟨(some 29), .move (.tmp 2), none⟩, (.int .i64)),
      (⟨(some 30), .bin .add (.const (.int .i64 1)) (.tmp 29), none⟩, (.int .i64)),
      (⟨(some 31), .move (.tmp 10), none⟩, .any),
      (⟨(some 32), .call k_sector_Disk_Write [(.tmp 28), (.tmp 30), (.tmp 31)], none⟩, (.int .i64)),
      (⟨(some 8), .move (.tmp 32), none⟩, (.int .i64))]) <|
  .ret
noncomputable def sf_home_Save (n : Nat) : Sf := sfOf [(k_home_has, s_home_has n), (k_home_Encode, s_home_Encode n), (k_sector_Disk_Write, s_sector_Disk_Write n)]
noncomputable def it_home_Save (n : Nat) : It := itOf []
def f_home_Save (n : Nat) (u0 : Option Addr) (u1 : Value) (u2 : Int) (u3 : Value) (h : Heap) : Option ((Int × Unit) × Heap) :=
  bif (cellsOf u1).all isCell then
    (bnd ((Heap.new h (.cells (cellsOf u1) false 0))) fun h0 =>
    bif (cellsOf u3).all isCell then
      (bnd ((Heap.new h0 (.cells (cellsOf u3) false 0))) fun h1 =>
      (ldA 5 h1 (some (nwA h))).bind fun cs2 =>
      (f_home_has n u0 (.agg ⟨cs2⟩) u2 h1).bind fun p3 =>
      bif (!decide (p3.1.1 = 0)) then
        (some ((p3.1.1, ()), p3.2))
      else
        ((ldA 32 p3.2 (some (nwA h0))).bind fun cs4 =>
        (f_home_Encode n u2 (.agg ⟨cs4⟩) p3.2).bind fun p5 =>
        bif (!decide (p5.1.2.1 = 0)) then
          (some ((p5.1.2.1, ()), p5.2))
        else
          ((f_sector_Disk_Write n u0 (IntKind.i64.wrap (1 + u2)) p5.1.1 p5.2).bind fun p6 =>
          some ((p6.1.1, ()), p6.2))))
    else
      (none))
  else
    (none)
def rs_home_Save : Rs := [(.tmp 8, (.int .i64))]
def ps_home_Save : List Ty := [.ptr, .any, (.int .i64), .any]
theorem e_home_Save (n : Nat) (u0 : Option Addr) (u1 : Value) (u2 : Int) (u3 : Value) (h : Heap) : f_home_Save n u0 u1 u2 u3 h = fB (sf_home_Save n) (it_home_Save n) n c2_home_Save rs_home_Save ps_home_Save (u0, (u1, (u2, (u3, ())))) h := by kernel_rfl
noncomputable def s_home_Save (n : Nat) : Sf1 := mkSf ps_home_Save rs_home_Save fun a h => f_home_Save n a.1 a.2.1 a.2.2.1 a.2.2.2.1 h

/- wicket/home.Load -/
def c2_home_Load : C2 :=
  .seq (.reg [(⟨(some 4), .box (.tmp 1), none⟩, .ptr),
      (⟨(some 6), .alloc (List.replicate 32 (.int .u8 0)), none⟩, .ptr),
      (⟨(some 7), .move (.const (.int .i64 0)), none⟩, (.int .i64))]) <|
  .seq (.seq (.reg [(⟨(some 11), .move (.tmp 0), none⟩, .ptr),
        (⟨(some 12), .load true 5 (.tmp 4), none⟩, .any),
        (⟨(some 13), .move (.tmp 2), none⟩, (.int .i64)),
        (⟨(some 14), .call k_home_has [(.tmp 11), (.tmp 12), (.tmp 13)], none⟩, (.int .i64)),
        (⟨(some 8), .move (.tmp 14), none⟩, (.int .i64))]) <|
    .seq (.reg [(⟨(some 15), .move (.tmp 8), none⟩, (.int .i64)),
        (⟨(some 16), .bin .neq (.tmp 15) (.const (.int .i64 0)), none⟩, .bool)]) <|
    .cond (.tmp 16)
      (.seq (.reg [(⟨(some 17), .build (List.replicate 32 (.int .u8 0)) [], none⟩, .any),
          (⟨(some 18), .move (.tmp 8), none⟩, (.int .i64)),
          (⟨none, .store 32 (.tmp 6) (.tmp 17), none⟩, .any),
          (⟨(some 7), .move (.tmp 18), none⟩, (.int .i64))]) <|
      .ret)
      (.skip)) <|
  .seq (.reg [(⟨(some 20), .move (.tmp 0), none⟩, .ptr),
      (⟨(some 21), .move (.tmp 2), none⟩, (.int .i64)),
      (⟨(some 22), .bin .add (.const (.int .i64 1)) (.tmp 21), none⟩, (.int .i64)),
      (⟨(some 23), .call k_sector_Disk_Read [(.tmp 20), (.tmp 22)], none⟩, .any),
      (⟨(some 19), .move (.tmp 23), none⟩, .any),
      (⟨(some 24), .extract (.tmp 19) 0, none⟩, .any),
      (⟨(some 25), .extract (.tmp 19) 1, none⟩, (.int .i64)),
      (⟨(some 9), .move (.tmp 24), none⟩, .any),
      (⟨(some 10), .move (.tmp 25), none⟩, (.int .i64))]) <|
  .seq (.seq (.reg [(⟨(some 26), .move (.tmp 10), none⟩, (.int .i64)),
        (⟨(some 27), .bin .neq (.tmp 26) (.const (.int .i64 0)), none⟩, .bool)]) <|
    .cond (.tmp 27)
      (.seq (.reg [(⟨(some 28), .build (List.replicate 32 (.int .u8 0)) [], none⟩, .any),
          (⟨(some 29), .move (.tmp 10), none⟩, (.int .i64)),
          (⟨none, .store 32 (.tmp 6) (.tmp 28), none⟩, .any),
          (⟨(some 7), .move (.tmp 29), none⟩, (.int .i64))]) <|
      .ret)
      (.skip)) <|
  .seq (.reg [(⟨(some 30), .move (.tmp 9), none⟩, .any),
      (⟨(some 31), .move (.tmp 2), none⟩, (.int .i64)),
      (⟨(some 32), .call k_home_Decode [(.tmp 30), (.tmp 31)], none⟩, .any),
      (⟨(some 33), .extract (.tmp 32) 0, none⟩, .any),
      (⟨(some 34), .extract (.tmp 32) 1, none⟩, (.int .i64)),
      (⟨none, .store 32 (.tmp 6) (.tmp 33), none⟩, .any),
      (⟨(some 7), .move (.tmp 34), none⟩, (.int .i64))]) <|
  .ret
noncomputable def sf_home_Load (n : Nat) : Sf := sfOf [(k_home_has, s_home_has n), (k_sector_Disk_Read, s_sector_Disk_Read n), (k_home_Decode, s_home_Decode n)]
noncomputable def it_home_Load (n : Nat) : It := itOf []
def f_home_Load (n : Nat) (u0 : Option Addr) (u1 : Value) (u2 : Int) (h : Heap) : Option ((Value × Int × Unit) × Heap) :=
  bif (cellsOf u1).all isCell then
    (bnd ((Heap.new h (.cells (cellsOf u1) false 0))) fun h0 =>
    bnd ((Heap.new h0 (.cells (List.replicate 32 (.int .u8 0)) false 0))) fun h1 =>
    (ldA 5 h1 (some (nwA h))).bind fun cs2 =>
    (f_home_has n u0 (.agg ⟨cs2⟩) u2 h1).bind fun p3 =>
    bif (!decide (p3.1.1 = 0)) then
      ((fillL (List.replicate 32 (.int .u8 0)) []).bind fun cs4 =>
      (stB 32 (.agg ⟨cs4⟩) p3.2 (some (nwA h0))).bind fun h5 =>
      (ldA 32 h5 (some (nwA h0))).bind fun cs6 =>
      some (((.agg ⟨cs6⟩), (p3.1.1, ())), h5))
    else
      ((f_sector_Disk_Read n u0 (IntKind.i64.wrap (1 + u2)) p3.2).bind fun p7 =>
      bif (!decide (p7.1.2.1 = 0)) then
        ((fillL (List.replicate 32 (.int .u8 0)) []).bind fun cs8 =>
        (stB 32 (.agg ⟨cs8⟩) p7.2 (some (nwA h0))).bind fun h9 =>
        (ldA 32 h9 (some (nwA h0))).bind fun cs10 =>
        some (((.agg ⟨cs10⟩), (p7.1.2.1, ())), h9))
      else
        ((f_home_Decode n p7.1.1 u2 p7.2).bind fun p11 =>
        (stB 32 p11.1.1 p11.2 (some (nwA h0))).bind fun h12 =>
        (ldA 32 h12 (some (nwA h0))).bind fun cs13 =>
        some (((.agg ⟨cs13⟩), (p11.1.2.1, ())), h12))))
  else
    (none)
def rs_home_Load : Rs := [(.cell true 32 6, .any), (.tmp 7, (.int .i64))]
def ps_home_Load : List Ty := [.ptr, .any, (.int .i64)]
theorem e_home_Load (n : Nat) (u0 : Option Addr) (u1 : Value) (u2 : Int) (h : Heap) : f_home_Load n u0 u1 u2 h = fB (sf_home_Load n) (it_home_Load n) n c2_home_Load rs_home_Load ps_home_Load (u0, (u1, (u2, ()))) h := by kernel_rfl
noncomputable def s_home_Load (n : Nat) : Sf1 := mkSf ps_home_Load rs_home_Load fun a h => f_home_Load n a.1 a.2.1 a.2.2.1 h

/-- The table holds these. -/
structure LfT (T : Nat → Option AFun) : Prop where
  t_wicketlaw08_awake : PrimT_wicketlaw08_awake T
  t_wicketlaw01_Held : T k_wicketlaw01_Held = some ⟨List.map (·.1) rs_wicketlaw01_Held, C2.erase c2_wicketlaw01_Held, none⟩
  t_wicketlaw01_Turn : T k_wicketlaw01_Turn = some ⟨List.map (·.1) rs_wicketlaw01_Turn, C2.erase c2_wicketlaw01_Turn, none⟩
  t_wicketlaw01_Own : T k_wicketlaw01_Own = some ⟨List.map (·.1) rs_wicketlaw01_Own, C2.erase c2_wicketlaw01_Own, none⟩
  t_wicketlaw01_Apart : T k_wicketlaw01_Apart = some ⟨List.map (·.1) rs_wicketlaw01_Apart, C2.erase c2_wicketlaw01_Apart, none⟩
  t_wicketlaw08_small : T k_wicketlaw08_small = some ⟨List.map (·.1) rs_wicketlaw08_small, C2.erase c2_wicketlaw08_small, none⟩
  t_sector_Disk_Len : T k_sector_Disk_Len = some ⟨List.map (·.1) rs_sector_Disk_Len, C2.erase c2_sector_Disk_Len, none⟩
  t_home_block : T k_home_block = some ⟨List.map (·.1) rs_home_block, C2.erase c2_home_block, none⟩
  t_octet_Join : T k_octet_Join = some ⟨List.map (·.1) rs_octet_Join, C2.erase c2_octet_Join, none⟩
  t_sector_Load : T k_sector_Load = some ⟨List.map (·.1) rs_sector_Load, C2.erase c2_sector_Load, none⟩
  t_wicketref08_number : T k_wicketref08_number = some ⟨List.map (·.1) rs_wicketref08_number, C2.erase c2_wicketref08_number, none⟩
  t_octet_may : T k_octet_may = some ⟨List.map (·.1) rs_octet_may, C2.erase c2_octet_may, none⟩
  t_sum_push : T k_sum_push = some ⟨List.map (·.1) rs_sum_push, C2.erase c2_sum_push, none⟩
  t_octet_Pad : T k_octet_Pad = some ⟨List.map (·.1) rs_octet_Pad, C2.erase c2_octet_Pad, none⟩
  t_sector_Disk_asked : T k_sector_Disk_asked = some ⟨List.map (·.1) rs_sector_Disk_asked, C2.erase c2_sector_Disk_asked, none⟩
  t_slices_Clone_byte_byte : T k_slices_Clone_byte_byte = some ⟨List.map (·.1) rs_slices_Clone_byte_byte, C2.erase c2_slices_Clone_byte_byte, none⟩
  t_wicketref02_Push : T k_wicketref02_Push = some ⟨List.map (·.1) rs_wicketref02_Push, C2.erase c2_wicketref02_Push, none⟩
  t_slices_Backward_sector_waiting_sector_waiting_1 : T k_slices_Backward_sector_waiting_sector_waiting_1 = some ⟨[], C2.erase c2_slices_Backward_sector_waiting_sector_waiting_1, none⟩
  t_super_within : T k_super_within = some ⟨List.map (·.1) rs_super_within, C2.erase c2_super_within, none⟩
  t_wicketlaw01_Roomy : T k_wicketlaw01_Roomy = some ⟨List.map (·.1) rs_wicketlaw01_Roomy, C2.erase c2_wicketlaw01_Roomy, none⟩
  t_octet_Put : T k_octet_Put = some ⟨List.map (·.1) rs_octet_Put, C2.erase c2_octet_Put, none⟩
  t_sum_Of : T k_sum_Of = some ⟨List.map (·.1) rs_sum_Of, C2.erase c2_sum_Of, none⟩
  t_sector_Disk_Write : T k_sector_Disk_Write = some ⟨List.map (·.1) rs_sector_Disk_Write, C2.erase c2_sector_Disk_Write, none⟩
  t_wicketref02_Of : T k_wicketref02_Of = some ⟨List.map (·.1) rs_wicketref02_Of, C2.erase c2_wicketref02_Of, none⟩
  t_slices_Backward_sector_waiting_sector_waiting : T k_slices_Backward_sector_waiting_sector_waiting = some ⟨List.map (·.1) rs_slices_Backward_sector_waiting_sector_waiting, C2.erase c2_slices_Backward_sector_waiting_sector_waiting, none⟩
  t_super_Config : T k_super_Config = some ⟨List.map (·.1) rs_super_Config, C2.erase c2_super_Config, none⟩
  t_home_Encode : T k_home_Encode = some ⟨List.map (·.1) rs_home_Encode, C2.erase c2_home_Encode, none⟩
  t_home_Decode : T k_home_Decode = some ⟨List.map (·.1) rs_home_Decode, C2.erase c2_home_Decode, none⟩
  t_wicketref08_Summed : T k_wicketref08_Summed = some ⟨List.map (·.1) rs_wicketref08_Summed, C2.erase c2_wicketref08_Summed, none⟩
  t_sector_Disk_Read : T k_sector_Disk_Read = some ⟨List.map (·.1) rs_sector_Disk_Read, C2.erase c2_sector_Disk_Read, none⟩
  t_super_Check : T k_super_Check = some ⟨List.map (·.1) rs_super_Check, C2.erase c2_super_Check, none⟩
  t_home_fits : T k_home_fits = some ⟨List.map (·.1) rs_home_fits, C2.erase c2_home_fits, none⟩
  t_wicketref08_Encode : T k_wicketref08_Encode = some ⟨List.map (·.1) rs_wicketref08_Encode, C2.erase c2_wicketref08_Encode, none⟩
  t_wicketref08_Decode : T k_wicketref08_Decode = some ⟨List.map (·.1) rs_wicketref08_Decode, C2.erase c2_wicketref08_Decode, none⟩
  t_super_Encode : T k_super_Encode = some ⟨List.map (·.1) rs_super_Encode, C2.erase c2_super_Encode, none⟩
  t_home_has : T k_home_has = some ⟨List.map (·.1) rs_home_has, C2.erase c2_home_has, none⟩
  t_wicketlaw08_HomeBytes : T k_wicketlaw08_HomeBytes = some ⟨List.map (·.1) rs_wicketlaw08_HomeBytes, C2.erase c2_wicketlaw08_HomeBytes, none⟩
  t_home_New : T k_home_New = some ⟨List.map (·.1) rs_home_New, C2.erase c2_home_New, none⟩
  t_home_Save : T k_home_Save = some ⟨List.map (·.1) rs_home_Save, C2.erase c2_home_Save, none⟩
  t_home_Load : T k_home_Load = some ⟨List.map (·.1) rs_home_Load, C2.erase c2_home_Load, none⟩
variable {T : Nat → Option AFun}
theorem ok_wicketlaw08_awake (hT : LfT T) (n : Nat) : Sf1Ok T k_wicketlaw08_awake (s_wicketlaw08_awake n) := primOk_wicketlaw08_awake hT.t_wicketlaw08_awake n
theorem ok_wicketlaw01_Held (hT : LfT T) (n : Nat) : Sf1Ok T k_wicketlaw01_Held (s_wicketlaw01_Held n) := mkSf_ok (sf := sf_wicketlaw01_Held n) (it := it_wicketlaw01_Held n) (n := n) hT.t_wicketlaw01_Held sfOk_nil itOk_nil fun a h => e_wicketlaw01_Held n a.1 a.2.1 h
theorem ok_wicketlaw01_Turn (hT : LfT T) (n : Nat) : Sf1Ok T k_wicketlaw01_Turn (s_wicketlaw01_Turn n) := mkSf_ok (sf := sf_wicketlaw01_Turn n) (it := it_wicketlaw01_Turn n) (n := n) hT.t_wicketlaw01_Turn sfOk_nil itOk_nil fun a h => e_wicketlaw01_Turn n a.1 h
theorem ok_wicketlaw01_Own (hT : LfT T) (n : Nat) : Sf1Ok T k_wicketlaw01_Own (s_wicketlaw01_Own n) := mkSf_ok (sf := sf_wicketlaw01_Own n) (it := it_wicketlaw01_Own n) (n := n) hT.t_wicketlaw01_Own sfOk_nil itOk_nil fun a h => e_wicketlaw01_Own n a.1 h
theorem ok_wicketlaw01_Apart (hT : LfT T) (n : Nat) : Sf1Ok T k_wicketlaw01_Apart (s_wicketlaw01_Apart n) := mkSf_ok (sf := sf_wicketlaw01_Apart n) (it := it_wicketlaw01_Apart n) (n := n) hT.t_wicketlaw01_Apart sfOk_nil itOk_nil fun a h => e_wicketlaw01_Apart n a.1 h
theorem ok_wicketlaw08_small (hT : LfT T) (n : Nat) : Sf1Ok T k_wicketlaw08_small (s_wicketlaw08_small n) := mkSf_ok (sf := sf_wicketlaw08_small n) (it := it_wicketlaw08_small n) (n := n) hT.t_wicketlaw08_small sfOk_nil itOk_nil fun a h => e_wicketlaw08_small n h
theorem ok_sector_Disk_Len (hT : LfT T) (n : Nat) : Sf1Ok T k_sector_Disk_Len (s_sector_Disk_Len n) := mkSf_ok (sf := sf_sector_Disk_Len n) (it := it_sector_Disk_Len n) (n := n) hT.t_sector_Disk_Len sfOk_nil itOk_nil fun a h => e_sector_Disk_Len n a.1 h
theorem ok_home_block (hT : LfT T) (n : Nat) : Sf1Ok T k_home_block (s_home_block n) := mkSf_ok (sf := sf_home_block n) (it := it_home_block n) (n := n) hT.t_home_block sfOk_nil itOk_nil fun a h => e_home_block n a.1 h
theorem ok_octet_Join (hT : LfT T) (n : Nat) : Sf1Ok T k_octet_Join (s_octet_Join n) := mkSf_ok (sf := sf_octet_Join n) (it := it_octet_Join n) (n := n) hT.t_octet_Join sfOk_nil itOk_nil fun a h => e_octet_Join n a.1 h
theorem ok_sector_Load (hT : LfT T) (n : Nat) : Sf1Ok T k_sector_Load (s_sector_Load n) := mkSf_ok (sf := sf_sector_Load n) (it := it_sector_Load n) (n := n) hT.t_sector_Load sfOk_nil itOk_nil fun a h => e_sector_Load n a.1 h
theorem ok_wicketref08_number (hT : LfT T) (n : Nat) : Sf1Ok T k_wicketref08_number (s_wicketref08_number n) := mkSf_ok (sf := sf_wicketref08_number n) (it := it_wicketref08_number n) (n := n) hT.t_wicketref08_number sfOk_nil itOk_nil fun a h => e_wicketref08_number n a.1 a.2.1 h
theorem ok_octet_may (hT : LfT T) (n : Nat) : Sf1Ok T k_octet_may (s_octet_may n) := mkSf_ok (sf := sf_octet_may n) (it := it_octet_may n) (n := n) hT.t_octet_may sfOk_nil itOk_nil fun a h => e_octet_may n a.1 h
theorem ok_sum_push (hT : LfT T) (n : Nat) : Sf1Ok T k_sum_push (s_sum_push n) := mkSf_ok (sf := sf_sum_push n) (it := it_sum_push n) (n := n) hT.t_sum_push sfOk_nil itOk_nil fun a h => e_sum_push n a.1 a.2.1 h
theorem ok_octet_Pad (hT : LfT T) (n : Nat) : Sf1Ok T k_octet_Pad (s_octet_Pad n) := mkSf_ok (sf := sf_octet_Pad n) (it := it_octet_Pad n) (n := n) hT.t_octet_Pad (sfOk_cons (ok_octet_Join hT n) sfOk_nil) itOk_nil fun a h => e_octet_Pad n a.1 a.2.1 h
theorem ok_sector_Disk_asked (hT : LfT T) (n : Nat) : Sf1Ok T k_sector_Disk_asked (s_sector_Disk_asked n) := mkSf_ok (sf := sf_sector_Disk_asked n) (it := it_sector_Disk_asked n) (n := n) hT.t_sector_Disk_asked sfOk_nil itOk_nil fun a h => e_sector_Disk_asked n a.1 a.2.1 h
theorem ok_slices_Clone_byte_byte (hT : LfT T) (n : Nat) : Sf1Ok T k_slices_Clone_byte_byte (s_slices_Clone_byte_byte n) := mkSf_ok (sf := sf_slices_Clone_byte_byte n) (it := it_slices_Clone_byte_byte n) (n := n) hT.t_slices_Clone_byte_byte sfOk_nil itOk_nil fun a h => e_slices_Clone_byte_byte n a.1 h
theorem ok_wicketref02_Push (hT : LfT T) (n : Nat) : Sf1Ok T k_wicketref02_Push (s_wicketref02_Push n) := mkSf_ok (sf := sf_wicketref02_Push n) (it := it_wicketref02_Push n) (n := n) hT.t_wicketref02_Push sfOk_nil itOk_nil fun a h => e_wicketref02_Push n a.1 a.2.1 h
theorem ok_slices_Backward_sector_waiting_sector_waiting_1 (hT : LfT T) (n : Nat) : It1Ok T k_slices_Backward_sector_waiting_sector_waiting_1 (i_slices_Backward_sector_waiting_sector_waiting_1 n) := mkIt_ok (sf := sf_slices_Backward_sector_waiting_sector_waiting_1 n) (it := it_slices_Backward_sector_waiting_sector_waiting_1 n) (n := n) hT.t_slices_Backward_sector_waiting_sector_waiting_1 sfOk_nil itOk_nil fun V hp up y a1 a2 v => e_slices_Backward_sector_waiting_sector_waiting_1 hp up y n a2.1 v
theorem ok_super_within (hT : LfT T) (n : Nat) : Sf1Ok T k_super_within (s_super_within n) := mkSf_ok (sf := sf_super_within n) (it := it_super_within n) (n := n) hT.t_super_within sfOk_nil itOk_nil fun a h => e_super_within n a.1 a.2.1 h
theorem ok_wicketlaw01_Roomy (hT : LfT T) (n : Nat) : Sf1Ok T k_wicketlaw01_Roomy (s_wicketlaw01_Roomy n) := mkSf_ok (sf := sf_wicketlaw01_Roomy n) (it := it_wicketlaw01_Roomy n) (n := n) hT.t_wicketlaw01_Roomy (sfOk_cons (ok_wicketlaw01_Own hT n) sfOk_nil) itOk_nil fun a h => e_wicketlaw01_Roomy n a.1 h
theorem ok_octet_Put (hT : LfT T) (n : Nat) : Sf1Ok T k_octet_Put (s_octet_Put n) := mkSf_ok (sf := sf_octet_Put n) (it := it_octet_Put n) (n := n) hT.t_octet_Put (sfOk_cons (ok_octet_may hT n) sfOk_nil) itOk_nil fun a h => e_octet_Put n a.1 a.2.1 h
theorem ok_sum_Of (hT : LfT T) (n : Nat) : Sf1Ok T k_sum_Of (s_sum_Of n) := mkSf_ok (sf := sf_sum_Of n) (it := it_sum_Of n) (n := n) hT.t_sum_Of (sfOk_cons (ok_sum_push hT n) sfOk_nil) itOk_nil fun a h => e_sum_Of n a.1 h
theorem ok_sector_Disk_Write (hT : LfT T) (n : Nat) : Sf1Ok T k_sector_Disk_Write (s_sector_Disk_Write n) := mkSf_ok (sf := sf_sector_Disk_Write n) (it := it_sector_Disk_Write n) (n := n) hT.t_sector_Disk_Write (sfOk_cons (ok_sector_Disk_asked hT n) sfOk_nil) itOk_nil fun a h => e_sector_Disk_Write n a.1 a.2.1 a.2.2.1 h
theorem ok_wicketref02_Of (hT : LfT T) (n : Nat) : Sf1Ok T k_wicketref02_Of (s_wicketref02_Of n) := mkSf_ok (sf := sf_wicketref02_Of n) (it := it_wicketref02_Of n) (n := n) hT.t_wicketref02_Of (sfOk_cons (ok_wicketref02_Push hT n) sfOk_nil) itOk_nil fun a h => e_wicketref02_Of n a.1 h
theorem ok_slices_Backward_sector_waiting_sector_waiting (hT : LfT T) (n : Nat) : Sf1Ok T k_slices_Backward_sector_waiting_sector_waiting (s_slices_Backward_sector_waiting_sector_waiting n) := mkSf_ok (sf := sf_slices_Backward_sector_waiting_sector_waiting n) (it := it_slices_Backward_sector_waiting_sector_waiting n) (n := n) hT.t_slices_Backward_sector_waiting_sector_waiting sfOk_nil itOk_nil fun a h => e_slices_Backward_sector_waiting_sector_waiting n a.1 h
theorem ok_super_Config (hT : LfT T) (n : Nat) : Sf1Ok T k_super_Config (s_super_Config n) := mkSf_ok (sf := sf_super_Config n) (it := it_super_Config n) (n := n) hT.t_super_Config (sfOk_cons (ok_super_within hT n) sfOk_nil) itOk_nil fun a h => e_super_Config n a.1 h
theorem ok_home_Encode (hT : LfT T) (n : Nat) : Sf1Ok T k_home_Encode (s_home_Encode n) := mkSf_ok (sf := sf_home_Encode n) (it := it_home_Encode n) (n := n) hT.t_home_Encode (sfOk_cons (ok_home_block hT n) (sfOk_cons (ok_octet_Join hT n) (sfOk_cons (ok_sum_Of hT n) (sfOk_cons (ok_octet_Put hT n) sfOk_nil)))) itOk_nil fun a h => e_home_Encode n a.1 a.2.1 h
theorem ok_home_Decode (hT : LfT T) (n : Nat) : Sf1Ok T k_home_Decode (s_home_Decode n) := mkSf_ok (sf := sf_home_Decode n) (it := it_home_Decode n) (n := n) hT.t_home_Decode (sfOk_cons (ok_home_block hT n) (sfOk_cons (ok_home_Encode hT n) sfOk_nil)) itOk_nil fun a h => e_home_Decode n a.1 a.2.1 h
theorem ok_wicketref08_Summed (hT : LfT T) (n : Nat) : Sf1Ok T k_wicketref08_Summed (s_wicketref08_Summed n) := mkSf_ok (sf := sf_wicketref08_Summed n) (it := it_wicketref08_Summed n) (n := n) hT.t_wicketref08_Summed (sfOk_cons (ok_wicketref02_Of hT n) (sfOk_cons (ok_wicketref08_number hT n) sfOk_nil)) itOk_nil fun a h => e_wicketref08_Summed n a.1 h
theorem ok_sector_Disk_Read (hT : LfT T) (n : Nat) : Sf1Ok T k_sector_Disk_Read (s_sector_Disk_Read n) := mkSf_ok (sf := sf_sector_Disk_Read n) (it := it_sector_Disk_Read n) (n := n) hT.t_sector_Disk_Read (sfOk_cons (ok_sector_Disk_asked hT n) (sfOk_cons (ok_slices_Backward_sector_waiting_sector_waiting hT n) (sfOk_cons (ok_slices_Clone_byte_byte hT n) sfOk_nil))) (itOk_cons (ok_slices_Backward_sector_waiting_sector_waiting_1 hT n) itOk_nil) fun a h => e_sector_Disk_Read n a.1 a.2.1 h
theorem ok_super_Check (hT : LfT T) (n : Nat) : Sf1Ok T k_super_Check (s_super_Check n) := mkSf_ok (sf := sf_super_Check n) (it := it_super_Check n) (n := n) hT.t_super_Check (sfOk_cons (ok_super_Config hT n) sfOk_nil) itOk_nil fun a h => e_super_Check n a.1 h
theorem ok_home_fits (hT : LfT T) (n : Nat) : Sf1Ok T k_home_fits (s_home_fits n) := mkSf_ok (sf := sf_home_fits n) (it := it_home_fits n) (n := n) hT.t_home_fits (sfOk_cons (ok_super_Config hT n) (sfOk_cons (ok_sector_Disk_Len hT n) sfOk_nil)) itOk_nil fun a h => e_home_fits n a.1 a.2.1 h
theorem ok_wicketref08_Encode (hT : LfT T) (n : Nat) : Sf1Ok T k_wicketref08_Encode (s_wicketref08_Encode n) := mkSf_ok (sf := sf_wicketref08_Encode n) (it := it_wicketref08_Encode n) (n := n) hT.t_wicketref08_Encode (sfOk_cons (ok_wicketref08_Summed hT n) sfOk_nil) itOk_nil fun a h => e_wicketref08_Encode n a.1 a.2.1 h
theorem ok_wicketref08_Decode (hT : LfT T) (n : Nat) : Sf1Ok T k_wicketref08_Decode (s_wicketref08_Decode n) := mkSf_ok (sf := sf_wicketref08_Decode n) (it := it_wicketref08_Decode n) (n := n) hT.t_wicketref08_Decode (sfOk_cons (ok_wicketref08_Encode hT n) sfOk_nil) itOk_nil fun a h => e_wicketref08_Decode n a.1 a.2.1 h
theorem ok_super_Encode (hT : LfT T) (n : Nat) : Sf1Ok T k_super_Encode (s_super_Encode n) := mkSf_ok (sf := sf_super_Encode n) (it := it_super_Encode n) (n := n) hT.t_super_Encode (sfOk_cons (ok_super_Check hT n) (sfOk_cons (ok_octet_Put hT n) (sfOk_cons (ok_octet_Pad hT n) (sfOk_cons (ok_sum_Of hT n) sfOk_nil)))) itOk_nil fun a h => e_super_Encode n a.1 h
theorem ok_home_has (hT : LfT T) (n : Nat) : Sf1Ok T k_home_has (s_home_has n) := mkSf_ok (sf := sf_home_has n) (it := it_home_has n) (n := n) hT.t_home_has (sfOk_cons (ok_home_fits hT n) sfOk_nil) itOk_nil fun a h => e_home_has n a.1 a.2.1 a.2.2.1 h
theorem ok_wicketlaw08_HomeBytes (hT : LfT T) (n : Nat) : Sf1Ok T k_wicketlaw08_HomeBytes (s_wicketlaw08_HomeBytes n) := mkSf_ok (sf := sf_wicketlaw08_HomeBytes n) (it := it_wicketlaw08_HomeBytes n) (n := n) hT.t_wicketlaw08_HomeBytes (sfOk_cons (ok_wicketlaw08_awake hT n) (sfOk_cons (ok_wicketref08_Encode hT n) (sfOk_cons (ok_wicketref08_Decode hT n) (sfOk_cons (ok_home_Encode hT n) (sfOk_cons (ok_wicketlaw01_Roomy hT n) (sfOk_cons (ok_home_Decode hT n) (sfOk_cons (ok_wicketlaw01_Held hT n) (sfOk_cons (ok_wicketlaw01_Turn hT n) (sfOk_cons (ok_wicketlaw01_Own hT n) (sfOk_cons (ok_wicketlaw01_Apart hT n) sfOk_nil)))))))))) itOk_nil fun a h => e_wicketlaw08_HomeBytes n a.1 a.2.1 a.2.2.1 h
theorem ok_home_New (hT : LfT T) (n : Nat) : Sf1Ok T k_home_New (s_home_New n) := mkSf_ok (sf := sf_home_New n) (it := it_home_New n) (n := n) hT.t_home_New (sfOk_cons (ok_super_Encode hT n) (sfOk_cons (ok_home_Encode hT n) (sfOk_cons (ok_octet_Join hT n) (sfOk_cons (ok_sector_Load hT n) sfOk_nil)))) itOk_nil fun a h => e_home_New n a.1 h
theorem ok_home_Save (hT : LfT T) (n : Nat) : Sf1Ok T k_home_Save (s_home_Save n) := mkSf_ok (sf := sf_home_Save n) (it := it_home_Save n) (n := n) hT.t_home_Save (sfOk_cons (ok_home_has hT n) (sfOk_cons (ok_home_Encode hT n) (sfOk_cons (ok_sector_Disk_Write hT n) sfOk_nil))) itOk_nil fun a h => e_home_Save n a.1 a.2.1 a.2.2.1 a.2.2.2.1 h
theorem ok_home_Load (hT : LfT T) (n : Nat) : Sf1Ok T k_home_Load (s_home_Load n) := mkSf_ok (sf := sf_home_Load n) (it := it_home_Load n) (n := n) hT.t_home_Load (sfOk_cons (ok_home_has hT n) (sfOk_cons (ok_sector_Disk_Read hT n) (sfOk_cons (ok_home_Decode hT n) sfOk_nil))) itOk_nil fun a h => e_home_Load n a.1 a.2.1 a.2.2.1 h
end Go.Proofs.YtjpiakhpkmmggaaDoor
