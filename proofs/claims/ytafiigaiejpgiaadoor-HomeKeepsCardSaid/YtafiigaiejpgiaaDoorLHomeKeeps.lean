/- The functions at hand as plain typed functions, each with the proof that it is what the abstract machine's code does. -/
import Derived.Test.YtafiigaiejpgiaaDoorB9t
import Derived.KernelRfl
namespace Go.Proofs.YtafiigaiejpgiaaDoor
open Go
set_option linter.unusedVariables false
set_option maxRecDepth 100000
def tab0 : Tab := { g := 1, k := .u32, zs := [0, 498536548, 997073096, 651767980, 1994146192, 1802195444, 1303535960, 1342533948, 3988292384, 4027552580, 3604390888, 3412177804, 2607071920, 2262029012, 2685067896, 3183342108] }
def tab1 : Tab := { g := 0, k := .i64, zs := [1, 1, 1, 1, 1, 1, 1, 3, 8, 8] }
def tabsL : List Tab := [tab0, tab1]
def k_var_s_door_gosem_cut_vars_holds_initialisers_alone_see_the_manifest_s_row_cutvarsword_look_11_test_files_too : Nat := 53
def k_var_s_door_the_look_of_gosem_cut_vars_went_over_the_folder_that_the_caller_named_as_the_repository_s_root_look_11 : Nat := 54
def k_var_s_door_sum_halves_is_laid_by_its_own_initialiser_plain_data_look_11 : Nat := 55
def k_var_s_door_super_widths_is_laid_by_its_own_initialiser_plain_data_look_11 : Nat := 56
def k_wicketlaw08_awake : Nat := 5
def k_sector_Disk_Image : Nat := 7
def k_sector_Disk_Flush : Nat := 10
def k_wicketref08_Same : Nat := 11
def k_octet_Join : Nat := 14
def k_sector_Load : Nat := 15
def k_wicketlaw08_small : Nat := 17
def k_sector_Disk_Len : Nat := 18
def k_slices_Clone_byte_byte : Nat := 23
def k_octet_Pad : Nat := 26
def k_home_block : Nat := 28
def k_sector_Disk_asked : Nat := 30
def k_octet_may : Nat := 32
def k_sum_push : Nat := 33
def k_super_within : Nat := 35
def k_slices_Backward_sector_waiting_sector_waiting_1 : Nat := 36
def k_sector_Disk_Waiting : Nat := 9
def k_sector_Disk_Write : Nat := 21
def k_octet_Put : Nat := 25
def k_sum_Of : Nat := 27
def k_super_Config : Nat := 31
def k_slices_Backward_sector_waiting_sector_waiting : Nat := 34
def k_home_Encode : Nat := 13
def k_home_Decode : Nat := 16
def k_home_fits : Nat := 22
def k_super_Check : Nat := 24
def k_sector_Disk_Read : Nat := 29
def k_super_Encode : Nat := 12
def k_home_has : Nat := 20
def k_home_New : Nat := 4
def k_home_Save : Nat := 6
def k_home_Load : Nat := 19
def k_home_All : Nat := 8
def k_wicketlaw08_HomeKeeps : Nat := 3

def f_wicketlaw08_awake (n : Nat) (h : Heap) : Option ((Bool × Unit) × Heap) := yesTB tabsL h
noncomputable def s_wicketlaw08_awake (n : Nat) : Sf1 := mkSf [] [(.tmp 0, .bool)] fun a h => f_wicketlaw08_awake n h
def PrimT_wicketlaw08_awake (T : Nat → Option AFun) : Prop := T k_wicketlaw08_awake = some ⟨[], .skip, some (yesT tabsL)⟩
theorem primOk_wicketlaw08_awake {T : Nat → Option AFun} (hT : PrimT_wicketlaw08_awake T) (n : Nat) : Sf1Ok T k_wicketlaw08_awake (s_wicketlaw08_awake n) := yesT_sf hT

/- (*wicket/sector.Disk).Image -/
def c2_sector_Disk_Image : C2 :=
  .seq (.reg [(⟨(some 2), .move (.const (.slice none 0 0)), none⟩, .any)]) <|
  .seq (.seq (.reg [(⟨(some 6), .move (.tmp 0), none⟩, .ptr),
        (⟨(some 7), .eqv false .ptr (.tmp 6) (.const (.pointer none)), none⟩, .bool)]) <|
    .cond (.tmp 7)
      (.seq (.reg [(⟨(some 2), .move (.const (.slice none 0 0)), none⟩, .any)]) <|
      .ret)
      (.skip)) <|
  .seq (.reg [(⟨(some 8), .move (.tmp 0), none⟩, .ptr),
      (⟨(some 9), .nilCheck (.tmp 8), none⟩, .ptr),
      (⟨(some 10), .fieldAddr 0 (.tmp 9), none⟩, .ptr),
      (⟨(some 11), .load false 1 (.tmp 10), none⟩, .any),
      (⟨(some 12), .lenS (.tmp 11), none⟩, (.int .i64)),
      (⟨(some 13), .bin .mul (.tmp 12) (.const (.int .i64 64)), none⟩, (.int .i64)),
      (⟨(some 14), .makeSlice 1 1 [(.int .u8 0)] (.const (.int .i64 0)) (.tmp 13), none⟩, .any),
      (⟨(some 3), .move (.tmp 14), none⟩, .any)]) <|
  .seq (.seq (.reg [(⟨(some 15), .move (.tmp 0), none⟩, .ptr),
        (⟨(some 16), .nilCheck (.tmp 15), none⟩, .ptr),
        (⟨(some 17), .fieldAddr 0 (.tmp 16), none⟩, .ptr),
        (⟨(some 18), .load false 1 (.tmp 17), none⟩, .any),
        (⟨(some 19), .lenS (.tmp 18), none⟩, (.int .i64)),
        (⟨(some 20), .move (.const (.int .i64 0)), none⟩, (.int .i64))]) <|
    .block 0 <|
      .loop [(3, .any), (20, (.int .i64))] <|
        .seq (.reg [(⟨(some 21), .bin .lss (.tmp 20) (.tmp 19), none⟩, .any)]) <|
        .seq (.cond (.tmp 21)
            (.skip)
            (.exit 0)) <|
        .seq (.block 1 <|
            .seq (.reg [(⟨(some 22), .idxSlice 64 (.tmp 18) (.tmp 20), none⟩, .ptr),
                (⟨(some 23), .load true 64 (.tmp 22), none⟩, .any),
                (⟨(some 5), .alloc (List.replicate 64 (.int .u8 0)), none⟩, .ptr),
                (⟨none, .store 64 (.tmp 5) (.tmp 23), none⟩, .any)]) <|
            .reg [(⟨(some 24), .move (.tmp 3), none⟩, .any),
              (⟨(some 25), .sliceArr 64 1 (.tmp 5) none none none, none⟩, .any),
              (⟨(some 26), .append 1 1 (.tmp 24) (.tmp 25), none⟩, .any),
              (⟨(some 3), .move (.tmp 26), none⟩, .any)]) <|
        .reg [(⟨(some 27), .bin .add (.tmp 20) (.const (.int .i64 1)), none⟩, (.int .i64)),
          (⟨(some 20), .move (.tmp 27), none⟩, (.int .i64))]) <|
  .seq (.reg [(⟨(some 28), .move (.tmp 3), none⟩, .any),
      (⟨(some 2), .move (.tmp 28), none⟩, .any)]) <|
  .ret
def f_sector_Disk_Image_L17 (n : Nat) (x6 : Value) (n7 : Nat) (v8 : Value) (v9 : Int) (h10 : Heap) : Option (((Value × Int × Unit) × Heap) ⊕ ((Value × Unit) × Heap)) :=
  bif (decide (v9 < (n7 : Int))) then
    ((ixB 64 x6 v9).bind fun q11 =>
    (ldA 64 h10 (some q11)).bind fun cs12 =>
    bnd ((Heap.new h10 (.cells (List.replicate 64 (.int .u8 0)) false 0))) fun h13 =>
    (stB 64 (.agg ⟨cs12⟩) h13 (some (nwA h10))).bind fun h14 =>
    (sliceArrK h14 64 1 none none (.pointer (some (nwA h10)))).bind fun p15 =>
    (appendK h14 1 1 v8 p15.1).bind fun p16 =>
    some (.inl ((p16.1, ((IntKind.i64.wrap (v9 + 1)), ())), p16.2)))
  else
    (Option.map Sum.inr (bif !isTuple v8 then
      (some ((v8, ()), h10))
    else
      (none)))
noncomputable def sf_sector_Disk_Image (n : Nat) : Sf := sfOf []
noncomputable def it_sector_Disk_Image (n : Nat) : It := itOf []
def f_sector_Disk_Image (n : Nat) (u0 : Option Addr) (h : Heap) : Option ((Value × Unit) × Heap) :=
  bif (Option.isNone u0) then
    (some (((.slice none 0 0), ()), h))
  else
    ((u0).bind fun q0 =>
    (ldT .any h (some (fa q0 0))).bind fun x1 =>
    (lenB x1).bind fun n2 =>
    (mkSl (Heap.next h) 1 1 [(.int .u8 0)] (.int .i64 0) (.int .i64 (IntKind.i64.wrap ((n2 : Int) * 64)))).bind fun p3 =>
    bnd ((Heap.new h (p3.2))) fun h4 =>
    (u0).bind fun q5 =>
    (ldT .any h4 (some (fa q5 0))).bind fun x6 =>
    (lenB x6).bind fun n7 =>
    loopT (fun a => f_sector_Disk_Image_L17 n x6 n7 a.1.1 a.1.2.1 a.2) n ((p3.1, (0, ())), h4))
def rs_sector_Disk_Image : Rs := [(.tmp 2, .any)]
def ps_sector_Disk_Image : List Ty := [.ptr]
theorem e_sector_Disk_Image (n : Nat) (u0 : Option Addr) (h : Heap) : f_sector_Disk_Image n u0 h = fB (sf_sector_Disk_Image n) (it_sector_Disk_Image n) n c2_sector_Disk_Image rs_sector_Disk_Image ps_sector_Disk_Image (u0, ()) h := by kernel_rfl
noncomputable def s_sector_Disk_Image (n : Nat) : Sf1 := mkSf ps_sector_Disk_Image rs_sector_Disk_Image fun a h => f_sector_Disk_Image n a.1 h

/- (*wicket/sector.Disk).Flush -/
def c2_sector_Disk_Flush : C2 :=
  .seq (.reg [(⟨(some 2), .move (.const (.int .i64 0)), none⟩, (.int .i64)),
      (⟨(some 3), .move (.const (.int .i64 0)), none⟩, (.int .i64))]) <|
  .seq (.seq (.reg [(⟨(some 7), .move (.tmp 0), none⟩, .ptr),
        (⟨(some 8), .eqv false .ptr (.tmp 7) (.const (.pointer none)), none⟩, .bool)]) <|
    .cond (.tmp 8)
      (.seq (.reg [(⟨(some 2), .move (.const (.int .i64 0)), none⟩, (.int .i64)),
          (⟨(some 3), .move (.const (.int .i64 1)), none⟩, (.int .i64))]) <|
      .ret)
      (.skip)) <|
  .seq (.cutn [] <|
      .seq (.reg [(⟨(some 9), .move (.tmp 0), none⟩, .ptr),
          (⟨(some 10), .nilCheck (.tmp 9), none⟩, .ptr),
          (⟨(some 11), .fieldAddr 1 (.tmp 10), none⟩, .ptr),
          (⟨(some 12), .load false 1 (.tmp 11), none⟩, .any),
          (⟨(some 13), .lenS (.tmp 12), none⟩, (.int .i64)),
          (⟨(some 14), .move (.const (.int .i64 0)), none⟩, (.int .i64))]) <|
      .block 0 <|
        .loop [(14, (.int .i64))] <|
          .seq (.reg [(⟨(some 15), .bin .lss (.tmp 14) (.tmp 13), none⟩, .any)]) <|
          .seq (.cond (.tmp 15)
              (.skip)
              (.exit 0)) <|
          .seq (.block 1 <|
              .seq (.reg [(⟨(some 16), .idxSlice 65 (.tmp 12) (.tmp 14), none⟩, .ptr),
                  (⟨(some 17), .load true 65 (.tmp 16), none⟩, .any),
                  (⟨(some 5), .alloc [(.int .i64 0), (.int .u8 0), (.int .u8 0), (.int .u8 0), (.int .u8 0), (.int .u8 0), (.int .u8 0), (.int .u8 0), (.int .u8 0), (.int .u8 0), (.int .u8 0), (.int .u8 0), (.int .u8 0), (.int .u8 0), (.int .u8 0), (.int .u8 0), (.int .u8 0), (.int .u8 0), (.int .u8 0), (.int .u8 0), (.int .u8 0), (.int .u8 0), (.int .u8 0), (.int .u8 0), (.int .u8 0), (.int .u8 0), (.int .u8 0), (.int .u8 0), (.int .u8 0), (.int .u8 0), (.int .u8 0), (.int .u8 0), (.int .u8 0), (.int .u8 0), (.int .u8 0), (.int .u8 0), (.int .u8 0), (.int .u8 0), (.int .u8 0), (.int .u8 0), (.int .u8 0), (.int .u8 0), (.int .u8 0), (.int .u8 0), (.int .u8 0), (.int .u8 0), (.int .u8 0), (.int .u8 0), (.int .u8 0), (.int .u8 0), (.int .u8 0), (.int .u8 0), (.int .u8 0), (.int .u8 0), (.int .u8 0), (.int .u8 0), (.int .u8 0), (.int .u8 0), (.int .u8 0), (.int .u8 0), (.int .u8 0), (.int .u8 0), (.int .u8 0), (.int .u8 0), (.int .u8 0)], none⟩, .ptr),
                  (⟨none, .store 65 (.tmp 5) (.tmp 17), none⟩, .any)]) <|
              .regd [(⟨0, [], false, ⟨(some 18), .move (.tmp 0), none⟩⟩, .ptr),
                (⟨1, [0], false, ⟨(some 19), .nilCheck (.tmp 18), none⟩⟩, .ptr),
                (⟨2, [1, 0], false, ⟨(some 20), .fieldAddr 0 (.tmp 19), none⟩⟩, .ptr),
                (⟨3, [2, 1, 0], false, ⟨(some 21), .load false 1 (.tmp 20), none⟩⟩, .any),
                (⟨4, [], false, ⟨(some 22), .fieldAddr 0 (.tmp 5), none⟩⟩, .ptr),
                (⟨5, [4], false, ⟨(some 23), .load false 1 (.tmp 22), none⟩⟩, (.int .i64)),
                (⟨6, [], false, ⟨(some 24), .fieldAddr 1 (.tmp 5), none⟩⟩, .ptr),
                (⟨7, [6], false, ⟨(some 25), .load true 64 (.tmp 24), none⟩⟩, .any),
                (⟨8, [3, 5, 0, 1, 2, 4, 6, 7], false, ⟨(some 26), .idxSlice 64 (.tmp 21) (.tmp 23), none⟩⟩, .ptr),
                (⟨9, [8, 7, 0, 1, 2, 3, 4, 5, 6], true, ⟨none, .store 64 (.tmp 26) (.tmp 25), none⟩⟩, .any)]) <|
          .reg [(⟨(some 27), .bin .add (.tmp 14) (.const (.int .i64 1)), none⟩, (.int .i64)),
            (⟨(some 14), .move (.tmp 27), none⟩, (.int .i64))]) <|
  .seq (.reg [(⟨(some 28), .move (.tmp 0), none⟩, .ptr),
      (⟨(some 29), .nilCheck (.tmp 28), none⟩, .ptr),
      (⟨(some 30), .fieldAddr 1 (.tmp 29), none⟩, .ptr),
      (⟨(some 31), .load false 1 (.tmp 30), none⟩, .any),
      (⟨(some 32), .lenS (.tmp 31), none⟩, (.int .i64)),
      (⟨(some 6), .move (.tmp 32), none⟩, (.int .i64))]) <|
  .seq (.reg [(⟨(some 33), .move (.tmp 0), none⟩, .ptr),
      (⟨(some 34), .nilCheck (.tmp 33), none⟩, .ptr),
      (⟨(some 35), .fieldAddr 1 (.tmp 34), none⟩, .ptr),
      (⟨none, .store 1 (.tmp 35) (.const (.slice none 0 0)), none⟩, .any)]) <|
  .seq (.reg [(⟨(some 36), .move (.tmp 6), none⟩, (.int .i64)),
      (⟨(some 2), .move (.tmp 36), none⟩, (.int .i64)),
      (⟨(some 3), .move (.const (.int .i64 0)), none⟩, (.int .i64))]) <|
  .ret
def f_sector_Disk_Flush_L15 (n : Nat) (u0 : Option Addr) (x1 : Value) (n2 : Nat) (v3 : Int) (h4 : Heap) : Option (((Int × Unit) × Heap) ⊕ ((Unit) × Heap)) :=
  bif (decide (v3 < (n2 : Int))) then
    ((ixB 65 x1 v3).bind fun q5 =>
    (ldA 65 h4 (some q5)).bind fun cs6 =>
    bnd ((Heap.new h4 (.cells [(.int .i64 0), (.int .u8 0), (.int .u8 0), (.int .u8 0), (.int .u8 0), (.int .u8 0), (.int .u8 0), (.int .u8 0), (.int .u8 0), (.int .u8 0), (.int .u8 0), (.int .u8 0), (.int .u8 0), (.int .u8 0), (.int .u8 0), (.int .u8 0), (.int .u8 0), (.int .u8 0), (.int .u8 0), (.int .u8 0), (.int .u8 0), (.int .u8 0), (.int .u8 0), (.int .u8 0), (.int .u8 0), (.int .u8 0), (.int .u8 0), (.int .u8 0), (.int .u8 0), (.int .u8 0), (.int .u8 0), (.int .u8 0), (.int .u8 0), (.int .u8 0), (.int .u8 0), (.int .u8 0), (.int .u8 0), (.int .u8 0), (.int .u8 0), (.int .u8 0), (.int .u8 0), (.int .u8 0), (.int .u8 0), (.int .u8 0), (.int .u8 0), (.int .u8 0), (.int .u8 0), (.int .u8 0), (.int .u8 0), (.int .u8 0), (.int .u8 0), (.int .u8 0), (.int .u8 0), (.int .u8 0), (.int .u8 0), (.int .u8 0), (.int .u8 0), (.int .u8 0), (.int .u8 0), (.int .u8 0), (.int .u8 0), (.int .u8 0), (.int .u8 0), (.int .u8 0), (.int .u8 0)] false 0))) fun h7 =>
    (stB 65 (.agg ⟨cs6⟩) h7 (some (nwA h4))).bind fun h8 =>
    (u0).bind fun q9 =>
    (ldT .any h8 (some (fa q9 0))).bind fun x10 =>
    (ldT (.int .i64) h8 (some (fa (nwA h4) 0))).bind fun x11 =>
    (ldA 64 h8 (some (fa (nwA h4) 1))).bind fun cs12 =>
    (ixB 64 x10 x11).bind fun q13 =>
    (stB 64 (.agg ⟨cs12⟩) h8 (some q13)).bind fun h14 =>
    some (.inl (((IntKind.i64.wrap (v3 + 1)), ()), h14)))
  else
    (some (.inr ((), h4)))
noncomputable def sf_sector_Disk_Flush (n : Nat) : Sf := sfOf []
noncomputable def it_sector_Disk_Flush (n : Nat) : It := itOf []
def f_sector_Disk_Flush (n : Nat) (u0 : Option Addr) (h : Heap) : Option ((Int × Int × Unit) × Heap) :=
  bif (Option.isNone u0) then
    (some ((0, (1, ())), h))
  else
    ((((u0).bind fun q0 =>
      (ldT .any h (some (fa q0 1))).bind fun x1 =>
      (lenB x1).bind fun n2 =>
      loopT (fun a => f_sector_Disk_Flush_L15 n u0 x1 n2 a.1.1 a.2) n ((0, ()), h)) : Option ((Unit) × Heap)).bind fun a16 =>
    (u0).bind fun q17 =>
    (ldT .any a16.2 (some (fa q17 1))).bind fun x18 =>
    (lenB x18).bind fun n19 =>
    (u0).bind fun q20 =>
    (stB 1 (.slice none 0 0) a16.2 (some (fa q20 1))).bind fun h21 =>
    some (((n19 : Int), (0, ())), h21))
def rs_sector_Disk_Flush : Rs := [(.tmp 2, (.int .i64)), (.tmp 3, (.int .i64))]
def ps_sector_Disk_Flush : List Ty := [.ptr]
theorem e_sector_Disk_Flush (n : Nat) (u0 : Option Addr) (h : Heap) : f_sector_Disk_Flush n u0 h = fB (sf_sector_Disk_Flush n) (it_sector_Disk_Flush n) n c2_sector_Disk_Flush rs_sector_Disk_Flush ps_sector_Disk_Flush (u0, ()) h := by kernel_rfl
noncomputable def s_sector_Disk_Flush (n : Nat) : Sf1 := mkSf ps_sector_Disk_Flush rs_sector_Disk_Flush fun a h => f_sector_Disk_Flush n a.1 h

/- wicket/wicketref08.Same -/
def c2_wicketref08_Same : C2 :=
  .seq (.reg [(⟨(some 4), .move (.const (.bool false)), none⟩, .bool)]) <|
  .seq (.seq (.reg [(⟨(some 6), .move (.tmp 0), none⟩, .any),
        (⟨(some 7), .lenS (.tmp 6), none⟩, (.int .i64)),
        (⟨(some 8), .move (.tmp 1), none⟩, .any),
        (⟨(some 9), .lenS (.tmp 8), none⟩, (.int .i64)),
        (⟨(some 10), .bin .neq (.tmp 7) (.tmp 9), none⟩, .bool)]) <|
    .cond (.tmp 10)
      (.seq (.reg [(⟨(some 4), .move (.const (.bool false)), none⟩, .bool)]) <|
      .ret)
      (.skip)) <|
  .seq (.seq (.reg [(⟨(some 5), .move (.const (.int .i64 0)), none⟩, (.int .i64))]) <|
    .block 0 <|
      .loop [(5, (.int .i64))] <|
        .seq (.seq (.reg [(⟨(some 11), .move (.tmp 5), none⟩, (.int .i64)),
              (⟨(some 12), .move (.tmp 0), none⟩, .any),
              (⟨(some 13), .lenS (.tmp 12), none⟩, (.int .i64)),
              (⟨(some 14), .bin .lss (.tmp 11) (.tmp 13), none⟩, .bool)]) <|
          .cond (.tmp 14)
            (.skip)
            (.exit 0)) <|
        .seq (.block 1 <|
            .seq (.regd [(⟨0, [], false, ⟨(some 17), .move (.tmp 0), none⟩⟩, .any),
                (⟨1, [], false, ⟨(some 18), .move (.tmp 5), none⟩⟩, (.int .i64)),
                (⟨2, [0, 1], false, ⟨(some 19), .idxSlice 32 (.tmp 17) (.tmp 18), none⟩⟩, .ptr),
                (⟨3, [2, 0, 1], false, ⟨(some 20), .load true 32 (.tmp 19), none⟩⟩, .any),
                (⟨4, [], false, ⟨(some 21), .move (.tmp 1), none⟩⟩, .any),
                (⟨5, [], false, ⟨(some 22), .move (.tmp 5), none⟩⟩, (.int .i64)),
                (⟨6, [4, 5], false, ⟨(some 23), .idxSlice 32 (.tmp 21) (.tmp 22), none⟩⟩, .ptr),
                (⟨7, [6, 4, 5], false, ⟨(some 24), .load true 32 (.tmp 23), none⟩⟩, .any),
                (⟨8, [3, 7, 2, 0, 1, 6, 4, 5], false, ⟨(some 25), .eqv true (.agg (List.replicate 32 false)) (.tmp 20) (.tmp 24), none⟩⟩, .bool)]) <|
            .cond (.tmp 25)
              (.seq (.reg [(⟨(some 4), .move (.const (.bool false)), none⟩, .bool)]) <|
              .ret)
              (.skip)) <|
        .reg [(⟨(some 15), .move (.tmp 5), none⟩, (.int .i64)),
          (⟨(some 16), .bin .add (.tmp 15) (.const (.int .i64 1)), none⟩, (.int .i64)),
          (⟨(some 5), .move (.tmp 16), none⟩, (.int .i64))]) <|
  .seq (.reg [(⟨(some 4), .move (.const (.bool true)), none⟩, .bool)]) <|
  .ret
def f_wicketref08_Same_L10 (n : Nat) (u1 : Value) (u0 : Value) (v2 : Int) (h3 : Heap) : Option (((Int × Unit) × Heap) ⊕ ((Bool × Unit) × Heap)) :=
  (lenB u0).bind fun n4 =>
  bif (decide (v2 < (n4 : Int))) then
    ((ixB 32 u0 v2).bind fun q5 =>
    (ldA 32 h3 (some q5)).bind fun cs6 =>
    (ixB 32 u1 v2).bind fun q7 =>
    (ldA 32 h3 (some q7)).bind fun cs8 =>
    (eqVals h3 (.agg (List.replicate 32 false)) (.agg ⟨cs6⟩) (.agg ⟨cs8⟩)).bind fun b9 =>
    bif (!b9) then
      (some (.inr ((false, ()), h3)))
    else
      (some (.inl (((IntKind.i64.wrap (v2 + 1)), ()), h3))))
  else
    (some (.inr ((true, ()), h3)))
noncomputable def sf_wicketref08_Same (n : Nat) : Sf := sfOf []
noncomputable def it_wicketref08_Same (n : Nat) : It := itOf []
def f_wicketref08_Same (n : Nat) (u0 : Value) (u1 : Value) (h : Heap) : Option ((Bool × Unit) × Heap) :=
  (lenB u0).bind fun n0 =>
  (lenB u1).bind fun n1 =>
  bif (!decide ((n0 : Int) = (n1 : Int))) then
    (some ((false, ()), h))
  else
    (loopT (fun a => f_wicketref08_Same_L10 n u1 u0 a.1.1 a.2) n ((0, ()), h))
def rs_wicketref08_Same : Rs := [(.tmp 4, .bool)]
def ps_wicketref08_Same : List Ty := [.any, .any]
theorem e_wicketref08_Same (n : Nat) (u0 : Value) (u1 : Value) (h : Heap) : f_wicketref08_Same n u0 u1 h = fB (sf_wicketref08_Same n) (it_wicketref08_Same n) n c2_wicketref08_Same rs_wicketref08_Same ps_wicketref08_Same (u0, (u1, ())) h := by kernel_rfl
noncomputable def s_wicketref08_Same (n : Nat) : Sf1 := mkSf ps_wicketref08_Same rs_wicketref08_Same fun a h => f_wicketref08_Same n a.1 a.2.1 h

/- wicket/octet.Join -/
def c2_octet_Join : C2 :=
  .seq (.reg [(⟨(some 2), .move (.const (.slice none 0 0)), none⟩, .any)]) <|
  .seq (.reg [(⟨(some 3), .move (.const (.slice none 0 0)), none⟩, .any)]) <|
  .seq (.seq (.reg [(⟨(some 6), .move (.tmp 0), none⟩, .any),
        (⟨(some 7), .lenS (.tmp 6), none⟩, (.int .i64)),
        (⟨(some 8), .move (.const (.int .i64 0)), none⟩, (.int .i64))]) <|
    .block 0 <|
      .loop [(3, .any), (8, (.int .i64))] <|
        .seq (.reg [(⟨(some 9), .bin .lss (.tmp 8) (.tmp 7), none⟩, .any)]) <|
        .seq (.cond (.tmp 9)
            (.skip)
            (.exit 0)) <|
        .seq (.block 1 <|
            .seq (.reg [(⟨(some 10), .idxSlice 1 (.tmp 6) (.tmp 8), none⟩, .ptr),
                (⟨(some 11), .load false 1 (.tmp 10), none⟩, .any),
                (⟨(some 5), .move (.tmp 11), none⟩, .any)]) <|
            .reg [(⟨(some 12), .move (.tmp 3), none⟩, .any),
              (⟨(some 13), .move (.tmp 5), none⟩, .any),
              (⟨(some 14), .append 1 1 (.tmp 12) (.tmp 13), none⟩, .any),
              (⟨(some 3), .move (.tmp 14), none⟩, .any)]) <|
        .reg [(⟨(some 15), .bin .add (.tmp 8) (.const (.int .i64 1)), none⟩, (.int .i64)),
          (⟨(some 8), .move (.tmp 15), none⟩, (.int .i64))]) <|
  .seq (.reg [(⟨(some 16), .move (.tmp 3), none⟩, .any),
      (⟨(some 2), .move (.tmp 16), none⟩, .any)]) <|
  .ret
def f_octet_Join_L7 (n : Nat) (u0 : Value) (n0 : Nat) (v1 : Value) (v2 : Int) (h3 : Heap) : Option (((Value × Int × Unit) × Heap) ⊕ ((Value × Unit) × Heap)) :=
  bif (decide (v2 < (n0 : Int))) then
    ((ixB 1 u0 v2).bind fun q4 =>
    (ldT .any h3 (some q4)).bind fun x5 =>
    (appendK h3 1 1 v1 x5).bind fun p6 =>
    some (.inl ((p6.1, ((IntKind.i64.wrap (v2 + 1)), ())), p6.2)))
  else
    (Option.map Sum.inr (bif !isTuple v1 then
      (some ((v1, ()), h3))
    else
      (none)))
noncomputable def sf_octet_Join (n : Nat) : Sf := sfOf []
noncomputable def it_octet_Join (n : Nat) : It := itOf []
def f_octet_Join (n : Nat) (u0 : Value) (h : Heap) : Option ((Value × Unit) × Heap) :=
  (lenB u0).bind fun n0 =>
  loopT (fun a => f_octet_Join_L7 n u0 n0 a.1.1 a.1.2.1 a.2) n (((.slice none 0 0), (0, ())), h)
def rs_octet_Join : Rs := [(.tmp 2, .any)]
def ps_octet_Join : List Ty := [.any]
theorem e_octet_Join (n : Nat) (u0 : Value) (h : Heap) : f_octet_Join n u0 h = fB (sf_octet_Join n) (it_octet_Join n) n c2_octet_Join rs_octet_Join ps_octet_Join (u0, ()) h := by kernel_rfl
noncomputable def s_octet_Join (n : Nat) : Sf1 := mkSf ps_octet_Join rs_octet_Join fun a h => f_octet_Join n a.1 h

/- wicket/sector.Load -/
def c2_sector_Load : C2 :=
  .seq (.reg [(⟨(some 2), .move (.const (.pointer none)), none⟩, .ptr),
      (⟨(some 3), .move (.const (.int .i64 0)), none⟩, (.int .i64))]) <|
  .seq (.reg [(⟨(some 7), .move (.tmp 0), none⟩, .any),
      (⟨(some 8), .lenS (.tmp 7), none⟩, (.int .i64)),
      (⟨(some 9), .bin .quo (.tmp 8) (.const (.int .i64 64)), none⟩, (.int .i64)),
      (⟨(some 4), .move (.tmp 9), none⟩, (.int .i64))]) <|
  .seq (.seq (.cutn [(21, .bool)] <|
        .reg [(⟨(some 10), .move (.tmp 4), none⟩, (.int .i64)),
          (⟨(some 11), .bin .lss (.tmp 10) (.const (.int .i64 1)), none⟩, .bool),
          (⟨(some 12), .move (.tmp 11), none⟩, .bool),
          (⟨(some 13), .move (.tmp 4), some (12, false)⟩, (.int .i64)),
          (⟨(some 14), .bin .gtr (.tmp 13) (.const (.int .i64 4096)), some (12, false)⟩, .bool),
          (⟨(some 15), .pick (.tmp 12) (.const (.bool true)) (.tmp 14), none⟩, .bool),
          (⟨(some 16), .move (.tmp 15), none⟩, .bool),
          (⟨(some 17), .move (.tmp 0), some (16, false)⟩, .any),
          (⟨(some 18), .lenS (.tmp 17), some (16, false)⟩, (.int .i64)),
          (⟨(some 19), .bin .rem (.tmp 18) (.const (.int .i64 64)), some (16, false)⟩, (.int .i64)),
          (⟨(some 20), .bin .neq (.tmp 19) (.const (.int .i64 0)), some (16, false)⟩, .bool),
          (⟨(some 21), .pick (.tmp 16) (.const (.bool true)) (.tmp 20), none⟩, .bool)]) <|
    .cond (.tmp 21)
      (.seq (.reg [(⟨(some 2), .move (.const (.pointer none)), none⟩, .ptr),
          (⟨(some 3), .move (.const (.int .i64 2)), none⟩, (.int .i64))]) <|
      .ret)
      (.skip)) <|
  .seq (.reg [(⟨(some 22), .move (.tmp 4), none⟩, (.int .i64)),
      (⟨(some 23), .makeSlice 64 64 (List.replicate 64 (.int .u8 0)) (.tmp 22) (.tmp 22), none⟩, .any),
      (⟨(some 24), .build [(.slice none 0 0), (.slice none 0 0)] [(0, 1, (.tmp 23))], none⟩, .any),
      (⟨(some 25), .box (.tmp 24), none⟩, .ptr),
      (⟨(some 5), .move (.tmp 25), none⟩, .ptr)]) <|
  .seq (.cutn [] <|
      .seq (.reg [(⟨(some 26), .move (.tmp 5), none⟩, .ptr),
          (⟨(some 27), .nilCheck (.tmp 26), none⟩, .ptr),
          (⟨(some 28), .fieldAddr 0 (.tmp 27), none⟩, .ptr),
          (⟨(some 29), .load false 1 (.tmp 28), none⟩, .any),
          (⟨(some 30), .lenS (.tmp 29), none⟩, (.int .i64)),
          (⟨(some 31), .move (.const (.int .i64 0)), none⟩, (.int .i64))]) <|
      .block 0 <|
        .loop [(31, (.int .i64))] <|
          .seq (.reg [(⟨(some 32), .bin .lss (.tmp 31) (.tmp 30), none⟩, .any)]) <|
          .seq (.cond (.tmp 32)
              (.skip)
              (.exit 0)) <|
          .seq (.block 1 <|
              .seq (.reg [(⟨(some 33), .move (.tmp 31), none⟩, (.int .i64)),
                  (⟨(some 6), .move (.tmp 33), none⟩, (.int .i64))]) <|
              .regd [(⟨0, [], false, ⟨(some 34), .move (.tmp 5), none⟩⟩, .ptr),
                (⟨1, [0], false, ⟨(some 35), .nilCheck (.tmp 34), none⟩⟩, .ptr),
                (⟨2, [1, 0], false, ⟨(some 36), .fieldAddr 0 (.tmp 35), none⟩⟩, .ptr),
                (⟨3, [2, 1, 0], false, ⟨(some 37), .load false 1 (.tmp 36), none⟩⟩, .any),
                (⟨4, [], false, ⟨(some 38), .move (.tmp 6), none⟩⟩, (.int .i64)),
                (⟨5, [], false, ⟨(some 39), .move (.tmp 0), none⟩⟩, .any),
                (⟨6, [], false, ⟨(some 40), .move (.tmp 6), none⟩⟩, (.int .i64)),
                (⟨7, [6], false, ⟨(some 41), .bin .mul (.tmp 40) (.const (.int .i64 64)), none⟩⟩, (.int .i64)),
                (⟨8, [], false, ⟨(some 42), .move (.tmp 6), none⟩⟩, (.int .i64)),
                (⟨9, [8], false, ⟨(some 43), .bin .add (.tmp 42) (.const (.int .i64 1)), none⟩⟩, (.int .i64)),
                (⟨10, [9, 8], false, ⟨(some 44), .bin .mul (.tmp 43) (.const (.int .i64 64)), none⟩⟩, (.int .i64)),
                (⟨11, [5, 7, 10, 6, 9, 8], false, ⟨(some 45), .slice 1 (.tmp 39) (some (.tmp 41)) (some (.tmp 44)) none, none⟩⟩, .any),
                (⟨12, [11, 5, 7, 10, 6, 9, 8], false, ⟨(some 46), .arrAt 64 (.tmp 45), none⟩⟩, .ptr),
                (⟨13, [12, 11, 5, 7, 10, 6, 9, 8], false, ⟨(some 47), .load true 64 (.tmp 46), none⟩⟩, .any),
                (⟨14, [3, 4, 0, 1, 2, 5, 6, 7, 8, 9, 10, 11, 12, 13], false, ⟨(some 48), .idxSlice 64 (.tmp 37) (.tmp 38), none⟩⟩, .ptr),
                (⟨15, [14, 13, 0, 1, 2, 3, 4, 5, 6, 7, 8, 9, 10, 11, 12], true, ⟨none, .store 64 (.tmp 48) (.tmp 47), none⟩⟩, .any)]) <|
          .reg [(⟨(some 49), .bin .add (.tmp 31) (.const (.int .i64 1)), none⟩, (.int .i64)),
            (⟨(some 31), .move (.tmp 49), none⟩, (.int .i64))]) <|
  .seq (.reg [(⟨(some 50), .move (.tmp 5), none⟩, .ptr),
      (⟨(some 2), .move (.tmp 50), none⟩, .ptr),
      (⟨(some 3), .move (.const (.int .i64 0)), none⟩, (.int .i64))]) <|
  .ret
def f_sector_Load_L17 (n : Nat) (u0 : Value) (h4 : Heap) (n8 : Nat) (v9 : Int) (h10 : Heap) : Option (((Int × Unit) × Heap) ⊕ ((Unit) × Heap)) :=
  bif (decide (v9 < (n8 : Int))) then
    ((ldT .any h10 (some (fa (nwA h4) 0))).bind fun x11 =>
    (sliceK h10 1 (some (.int .i64 (IntKind.i64.wrap (v9 * 64)))) (some (.int .i64 (IntKind.i64.wrap ((IntKind.i64.wrap (v9 + 1)) * 64)))) none u0).bind fun p12 =>
    (arrB h10 64 p12.1).bind fun q13 =>
    (ldA 64 h10 q13).bind fun cs14 =>
    (ixB 64 x11 v9).bind fun q15 =>
    (stB 64 (.agg ⟨cs14⟩) h10 (some q15)).bind fun h16 =>
    some (.inl (((IntKind.i64.wrap (v9 + 1)), ()), h16)))
  else
    (some (.inr ((), h10)))
noncomputable def sf_sector_Load (n : Nat) : Sf := sfOf []
noncomputable def it_sector_Load (n : Nat) : It := itOf []
def f_sector_Load (n : Nat) (u0 : Value) (h : Heap) : Option ((Option Addr × Int × Unit) × Heap) :=
  (lenB u0).bind fun n0 =>
  ((bif (decide ((IntKind.i64.wrap (Int.tdiv (n0 : Int) 64)) < 1)) then
      (some ((true, ()), h))
    else
      (bif (decide (4096 < (IntKind.i64.wrap (Int.tdiv (n0 : Int) 64)))) then
        (some ((true, ()), h))
      else
        ((lenB u0).bind fun n1 =>
        some (((!decide ((Int.tmod (n1 : Int) 64) = 0)), ()), h)))) : Option ((Bool × Unit) × Heap)).bind fun a2 =>
  bif a2.1.1 then
    (some ((none, (2, ())), a2.2))
  else
    ((mkSl (Heap.next a2.2) 64 64 (List.replicate 64 (.int .u8 0)) (.int .i64 (IntKind.i64.wrap (Int.tdiv (n0 : Int) 64))) (.int .i64 (IntKind.i64.wrap (Int.tdiv (n0 : Int) 64)))).bind fun p3 =>
    bnd ((Heap.new a2.2 (p3.2))) fun h4 =>
    (fillL [(.slice none 0 0), (.slice none 0 0)] [(0, 1, p3.1)]).bind fun cs5 =>
    bif (cs5 : List Value).all isCell then
      (bnd ((Heap.new h4 (.cells cs5 false 0))) fun h6 =>
      (((ldT .any h6 (some (fa (nwA h4) 0))).bind fun x7 =>
        (lenB x7).bind fun n8 =>
        loopT (fun a => f_sector_Load_L17 n u0 h4 n8 a.1.1 a.2) n ((0, ()), h6)) : Option ((Unit) × Heap)).bind fun a18 =>
      some (((some (nwA h4)), (0, ())), a18.2))
    else
      (none))
def rs_sector_Load : Rs := [(.tmp 2, .ptr), (.tmp 3, (.int .i64))]
def ps_sector_Load : List Ty := [.any]
theorem e_sector_Load (n : Nat) (u0 : Value) (h : Heap) : f_sector_Load n u0 h = fB (sf_sector_Load n) (it_sector_Load n) n c2_sector_Load rs_sector_Load ps_sector_Load (u0, ()) h := by kernel_rfl
noncomputable def s_sector_Load (n : Nat) : Sf1 := mkSf ps_sector_Load rs_sector_Load fun a h => f_sector_Load n a.1 h

/- wicket/wicketlaw08.small -/
def c2_wicketlaw08_small : C2 :=
  .seq (.reg [(⟨(some 0), .alloc (List.replicate 5 (.int .i64 0)), none⟩, .ptr)]) <|
  .seq (.reg [(⟨(some 1), .build (List.replicate 5 (.int .i64 0)) [(0, 1, (.const (.int .i64 2))), (1, 1, (.const (.int .i64 3))), (2, 1, (.const (.int .i64 1))), (3, 1, (.const (.int .i64 1))), (4, 1, (.const (.int .i64 1)))], none⟩, .any),
      (⟨none, .store 5 (.tmp 0) (.tmp 1), none⟩, .any)]) <|
  .ret
noncomputable def sf_wicketlaw08_small (n : Nat) : Sf := sfOf []
noncomputable def it_wicketlaw08_small (n : Nat) : It := itOf []
def f_wicketlaw08_small (n : Nat)  (h : Heap) : Option ((Value × Unit) × Heap) :=
  bnd ((Heap.new h (.cells (List.replicate 5 (.int .i64 0)) false 0))) fun h0 =>
  (fillL (List.replicate 5 (.int .i64 0)) [(0, 1, (.int .i64 2)), (1, 1, (.int .i64 3)), (2, 1, (.int .i64 1)), (3, 1, (.int .i64 1)), (4, 1, (.int .i64 1))]).bind fun cs1 =>
  (stB 5 (.agg ⟨cs1⟩) h0 (some (nwA h))).bind fun h2 =>
  (ldA 5 h2 (some (nwA h))).bind fun cs3 =>
  some (((.agg ⟨cs3⟩), ()), h2)
def rs_wicketlaw08_small : Rs := [(.cell true 5 0, .any)]
def ps_wicketlaw08_small : List Ty := []
theorem e_wicketlaw08_small (n : Nat)  (h : Heap) : f_wicketlaw08_small n h = fB (sf_wicketlaw08_small n) (it_wicketlaw08_small n) n c2_wicketlaw08_small rs_wicketlaw08_small ps_wicketlaw08_small () h := by kernel_rfl
noncomputable def s_wicketlaw08_small (n : Nat) : Sf1 := mkSf ps_wicketlaw08_small rs_wicketlaw08_small fun a h => f_wicketlaw08_small n h

/- (*wicket/sector.Disk).Len -/
def c2_sector_Disk_Len : C2 :=
  .seq (.reg [(⟨(some 2), .move (.const (.int .i64 0)), none⟩, (.int .i64))]) <|
  .seq (.seq (.reg [(⟨(some 3), .move (.tmp 0), none⟩, .ptr),
        (⟨(some 4), .eqv false .ptr (.tmp 3) (.const (.pointer none)), none⟩, .bool)]) <|
    .cond (.tmp 4)
      (.seq (.reg [(⟨(some 2), .move (.const (.int .i64 0)), none⟩, (.int .i64))]) <|
      .ret)
      (.skip)) <|
  .seq (.reg [(⟨(some 5), .move (.tmp 0), none⟩, .ptr),
      (⟨(some 6), .nilCheck (.tmp 5), none⟩, .ptr),
      (⟨(some 7), .fieldAddr 0 (.tmp 6), none⟩, .ptr),
      (⟨(some 8), .load false 1 (.tmp 7), none⟩, .any),
      (⟨(some 9), .lenS (.tmp 8), none⟩, (.int .i64)),
      (⟨(some 2), .move (.tmp 9), none⟩, (.int .i64))]) <|
  .ret
noncomputable def sf_sector_Disk_Len (n : Nat) : Sf := sfOf []
noncomputable def it_sector_Disk_Len (n : Nat) : It := itOf []
def f_sector_Disk_Len (n : Nat) (u0 : Option Addr) (h : Heap) : Option ((Int × Unit) × Heap) :=
  bif (Option.isNone u0) then
    (some ((0, ()), h))
  else
    ((u0).bind fun q0 =>
    (ldT .any h (some (fa q0 0))).bind fun x1 =>
    (lenB x1).bind fun n2 =>
    some (((n2 : Int), ()), h))
def rs_sector_Disk_Len : Rs := [(.tmp 2, (.int .i64))]
def ps_sector_Disk_Len : List Ty := [.ptr]
theorem e_sector_Disk_Len (n : Nat) (u0 : Option Addr) (h : Heap) : f_sector_Disk_Len n u0 h = fB (sf_sector_Disk_Len n) (it_sector_Disk_Len n) n c2_sector_Disk_Len rs_sector_Disk_Len ps_sector_Disk_Len (u0, ()) h := by kernel_rfl
noncomputable def s_sector_Disk_Len (n : Nat) : Sf1 := mkSf ps_sector_Disk_Len rs_sector_Disk_Len fun a h => f_sector_Disk_Len n a.1 h

/- slices.Clone[[]byte,byte] -/
def c2_slices_Clone_byte_byte : C2 :=
  .seq (.reg [(⟨(some 2), .move (.const (.slice none 0 0)), none⟩, .any)]) <|
  .seq (.seq (.reg [(⟨(some 3), .move (.tmp 0), none⟩, .any),
        (⟨(some 4), .eqv false .slice (.tmp 3) (.const (.slice none 0 0)), none⟩, .bool)]) <|
    .cond (.tmp 4)
      (.seq (.reg [(⟨(some 2), .move (.const (.slice none 0 0)), none⟩, .any)]) <|
      .ret)
      (.skip)) <|
  .seq (.reg [(⟨(some 5), .buildSlice 0 1 [] [], none⟩, .any),
      (⟨(some 6), .move (.tmp 0), none⟩, .any),
      (⟨(some 7), .append 1 1 (.tmp 5) (.tmp 6), none⟩, .any),
      (⟨(some 2), .move (.tmp 7), none⟩, .any)]) <|
  .ret
noncomputable def sf_slices_Clone_byte_byte (n : Nat) : Sf := sfOf []
noncomputable def it_slices_Clone_byte_byte (n : Nat) : It := itOf []
def f_slices_Clone_byte_byte (n : Nat) (u0 : Value) (h : Heap) : Option ((Value × Unit) × Heap) :=
  (eqVals h .slice u0 (.slice none 0 0)).bind fun b0 =>
  bif b0 then
    (some (((.slice none 0 0), ()), h))
  else
    ((fillL [] []).bind fun cs1 =>
    bnd ((Heap.new h (.cells cs1 false 1))) fun h2 =>
    (appendK h2 1 1 (.slice (some ⟨Heap.next h, 0, some 0⟩) 0 0) u0).bind fun p3 =>
    bif !isTuple p3.1 then
      (some ((p3.1, ()), p3.2))
    else
      (none))
def rs_slices_Clone_byte_byte : Rs := [(.tmp 2, .any)]
def ps_slices_Clone_byte_byte : List Ty := [.any]
theorem e_slices_Clone_byte_byte (n : Nat) (u0 : Value) (h : Heap) : f_slices_Clone_byte_byte n u0 h = fB (sf_slices_Clone_byte_byte n) (it_slices_Clone_byte_byte n) n c2_slices_Clone_byte_byte rs_slices_Clone_byte_byte ps_slices_Clone_byte_byte (u0, ()) h := by kernel_rfl
noncomputable def s_slices_Clone_byte_byte (n : Nat) : Sf1 := mkSf ps_slices_Clone_byte_byte rs_slices_Clone_byte_byte fun a h => f_slices_Clone_byte_byte n a.1 h

/- wicket/octet.Pad -/
def c2_octet_Pad : C2 :=
  .seq (.reg [(⟨(some 4), .move (.const (.slice none 0 0)), none⟩, .any),
      (⟨(some 5), .move (.const (.int .i64 0)), none⟩, (.int .i64))]) <|
  .seq (.block 0 <|
      .seq (.cutn [(6, .bool)] <|
          .reg [(⟨(some 7), .move (.tmp 1), none⟩, (.int .i64)),
            (⟨(some 8), .bin .lss (.tmp 7) (.const (.int .i64 0)), none⟩, .bool),
            (⟨(some 9), .move (.tmp 8), none⟩, .bool),
            (⟨(some 10), .move (.tmp 1), some (9, false)⟩, (.int .i64)),
            (⟨(some 11), .bin .gtr (.tmp 10) (.const (.int .i64 64)), some (9, false)⟩, .bool),
            (⟨(some 12), .pick (.tmp 9) (.const (.bool true)) (.tmp 11), none⟩, .bool),
            (⟨(some 6), .move (.tmp 12), none⟩, .bool)]) <|
      .cond (.tmp 6)
        (.seq (.reg [(⟨(some 4), .move (.const (.slice none 0 0)), none⟩, .any),
            (⟨(some 5), .move (.const (.int .i64 2)), none⟩, (.int .i64))]) <|
        .ret)
        (.seq (.reg [(⟨(some 14), .move (.tmp 0), none⟩, .any),
            (⟨(some 15), .lenS (.tmp 14), none⟩, (.int .i64)),
            (⟨(some 16), .move (.tmp 1), none⟩, (.int .i64)),
            (⟨(some 17), .bin .gtr (.tmp 15) (.tmp 16), none⟩, .bool),
            (⟨(some 13), .move (.tmp 17), none⟩, .bool)]) <|
        .cond (.tmp 13)
          (.seq (.reg [(⟨(some 4), .move (.const (.slice none 0 0)), none⟩, .any),
              (⟨(some 5), .move (.const (.int .i64 10)), none⟩, (.int .i64))]) <|
          .ret)
          (.skip))) <|
  .seq (.reg [(⟨(some 18), .move (.tmp 0), none⟩, .any),
      (⟨(some 19), .move (.tmp 1), none⟩, (.int .i64)),
      (⟨(some 20), .move (.tmp 0), none⟩, .any),
      (⟨(some 21), .lenS (.tmp 20), none⟩, (.int .i64)),
      (⟨(some 22), .bin .sub (.tmp 19) (.tmp 21), none⟩, (.int .i64)),
      (⟨(some 23), .makeSlice 1 1 [(.int .u8 0)] (.tmp 22) (.tmp 22), none⟩, .any),
      (⟨(some 24), .buildSlice 2 1 [(.slice none 0 0), (.slice none 0 0)] [(0, 1, (.tmp 18)), (1, 1, (.tmp 23))], none⟩, .any),
      (⟨(some 25), .call k_octet_Join [(.tmp 24)], none⟩, .any),
      (⟨(some 4), .move (.tmp 25), none⟩, .any),
      (⟨(some 5), .move (.const (.int .i64 0)), none⟩, (.int .i64))]) <|
  .ret
noncomputable def sf_octet_Pad (n : Nat) : Sf := sfOf [(k_octet_Join, s_octet_Join n)]
noncomputable def it_octet_Pad (n : Nat) : It := itOf []
def f_octet_Pad (n : Nat) (u0 : Value) (u1 : Int) (h : Heap) : Option ((Value × Int × Unit) × Heap) :=
  ((bif (decide (u1 < 0)) then
      (some ((true, ()), h))
    else
      (some (((decide (64 < u1)), ()), h))) : Option ((Bool × Unit) × Heap)).bind fun a0 =>
  bif a0.1.1 then
    (some (((.slice none 0 0), (2, ())), a0.2))
  else
    ((lenB u0).bind fun n1 =>
    bif (decide (u1 < (n1 : Int))) then
      (some (((.slice none 0 0), (10, ())), a0.2))
    else
      ((lenB u0).bind fun n2 =>
      (mkSl (Heap.next a0.2) 1 1 [(.int .u8 0)] (.int .i64 (IntKind.i64.wrap (u1 - (n2 : Int)))) (.int .i64 (IntKind.i64.wrap (u1 - (n2 : Int))))).bind fun p3 =>
      bnd ((Heap.new a0.2 (p3.2))) fun h4 =>
      (fillL [(.slice none 0 0), (.slice none 0 0)] [(0, 1, u0), (1, 1, p3.1)]).bind fun cs5 =>
      bnd ((Heap.new h4 (.cells cs5 false 1))) fun h6 =>
      (f_octet_Join n (.slice (some ⟨Heap.next h4, 0, some 0⟩) 2 2) h6).bind fun p7 =>
      bif !isTuple p7.1.1 then
        (some ((p7.1.1, (0, ())), p7.2))
      else
        (none)))
def rs_octet_Pad : Rs := [(.tmp 4, .any), (.tmp 5, (.int .i64))]
def ps_octet_Pad : List Ty := [.any, (.int .i64)]
theorem e_octet_Pad (n : Nat) (u0 : Value) (u1 : Int) (h : Heap) : f_octet_Pad n u0 u1 h = fB (sf_octet_Pad n) (it_octet_Pad n) n c2_octet_Pad rs_octet_Pad ps_octet_Pad (u0, (u1, ())) h := by kernel_rfl
noncomputable def s_octet_Pad (n : Nat) : Sf1 := mkSf ps_octet_Pad rs_octet_Pad fun a h => f_octet_Pad n a.1 a.2.1 h

/- wicket/home.block -/
def c2_home_block : C2 :=
  .seq (.reg [(⟨(some 2), .move (.const (.bool false)), none⟩, .bool)]) <|
  .seq (.reg [(⟨(some 3), .move (.tmp 0), none⟩, (.int .i64)),
      (⟨(some 4), .bin .geq (.tmp 3) (.const (.int .i64 0)), none⟩, .bool),
      (⟨(some 5), .move (.tmp 4), none⟩, .bool),
      (⟨(some 6), .move (.tmp 0), some (5, true)⟩, (.int .i64)),
      (⟨(some 7), .bin .lss (.tmp 6) (.const (.int .i64 64)), some (5, true)⟩, .bool),
      (⟨(some 8), .pick (.tmp 5) (.tmp 7) (.const (.bool false)), none⟩, .bool),
      (⟨(some 2), .move (.tmp 8), none⟩, .bool)]) <|
  .ret
noncomputable def sf_home_block (n : Nat) : Sf := sfOf []
noncomputable def it_home_block (n : Nat) : It := itOf []
def f_home_block (n : Nat) (u0 : Int) (h : Heap) : Option ((Bool × Unit) × Heap) :=
  bif (decide (0 ≤ u0)) then
    (some (((decide (u0 < 64)), ()), h))
  else
    (some ((false, ()), h))
def rs_home_block : Rs := [(.tmp 2, .bool)]
def ps_home_block : List Ty := [(.int .i64)]
theorem e_home_block (n : Nat) (u0 : Int) (h : Heap) : f_home_block n u0 h = fB (sf_home_block n) (it_home_block n) n c2_home_block rs_home_block ps_home_block (u0, ()) h := by kernel_rfl
noncomputable def s_home_block (n : Nat) : Sf1 := mkSf ps_home_block rs_home_block fun a h => f_home_block n a.1 h

/- (*wicket/sector.Disk).asked -/
def c2_sector_Disk_asked : C2 :=
  .seq (.reg [(⟨(some 4), .move (.const (.int .i64 0)), none⟩, (.int .i64))]) <|
  .seq (.block 0 <|
      .seq (.reg [(⟨(some 6), .move (.tmp 0), none⟩, .ptr),
          (⟨(some 7), .eqv false .ptr (.tmp 6) (.const (.pointer none)), none⟩, .bool),
          (⟨(some 5), .move (.tmp 7), none⟩, .bool)]) <|
      .cond (.tmp 5)
        (.seq (.reg [(⟨(some 4), .move (.const (.int .i64 1)), none⟩, (.int .i64))]) <|
        .ret)
        (.seq (.cutn [(8, .bool)] <|
            .reg [(⟨(some 9), .move (.tmp 1), none⟩, (.int .i64)),
              (⟨(some 10), .bin .lss (.tmp 9) (.const (.int .i64 0)), none⟩, .bool),
              (⟨(some 11), .move (.tmp 10), none⟩, .bool),
              (⟨(some 12), .move (.tmp 1), some (11, false)⟩, (.int .i64)),
              (⟨(some 13), .move (.tmp 0), some (11, false)⟩, .ptr),
              (⟨(some 14), .nilCheck (.tmp 13), some (11, false)⟩, .ptr),
              (⟨(some 15), .fieldAddr 0 (.tmp 14), some (11, false)⟩, .ptr),
              (⟨(some 16), .load false 1 (.tmp 15), some (11, false)⟩, .any),
              (⟨(some 17), .lenS (.tmp 16), some (11, false)⟩, (.int .i64)),
              (⟨(some 18), .bin .geq (.tmp 12) (.tmp 17), some (11, false)⟩, .bool),
              (⟨(some 19), .pick (.tmp 11) (.const (.bool true)) (.tmp 18), none⟩, .bool),
              (⟨(some 8), .move (.tmp 19), none⟩, .bool)]) <|
        .cond (.tmp 8)
          (.seq (.reg [(⟨(some 4), .move (.const (.int .i64 40)), none⟩, (.int .i64))]) <|
          .ret)
          (.skip))) <|
  .seq (.reg [(⟨(some 4), .move (.const (.int .i64 0)), none⟩, (.int .i64))]) <|
  .ret
noncomputable def sf_sector_Disk_asked (n : Nat) : Sf := sfOf []
noncomputable def it_sector_Disk_asked (n : Nat) : It := itOf []
def f_sector_Disk_asked (n : Nat) (u0 : Option Addr) (u1 : Int) (h : Heap) : Option ((Int × Unit) × Heap) :=
  bif (Option.isNone u0) then
    (some ((1, ()), h))
  else
    (((bif (decide (u1 < 0)) then
        (some ((true, ()), h))
      else
        ((u0).bind fun q0 =>
        (ldT .any h (some (fa q0 0))).bind fun x1 =>
        (lenB x1).bind fun n2 =>
        some (((decide ((n2 : Int) ≤ u1)), ()), h))) : Option ((Bool × Unit) × Heap)).bind fun a3 =>
    bif a3.1.1 then
      (some ((40, ()), a3.2))
    else
      (some ((0, ()), a3.2)))
def rs_sector_Disk_asked : Rs := [(.tmp 4, (.int .i64))]
def ps_sector_Disk_asked : List Ty := [.ptr, (.int .i64)]
theorem e_sector_Disk_asked (n : Nat) (u0 : Option Addr) (u1 : Int) (h : Heap) : f_sector_Disk_asked n u0 u1 h = fB (sf_sector_Disk_asked n) (it_sector_Disk_asked n) n c2_sector_Disk_asked rs_sector_Disk_asked ps_sector_Disk_asked (u0, (u1, ())) h := by kernel_rfl
noncomputable def s_sector_Disk_asked (n : Nat) : Sf1 := mkSf ps_sector_Disk_asked rs_sector_Disk_asked fun a h => f_sector_Disk_asked n a.1 a.2.1 h

/- wicket/octet.may -/
def c2_octet_may : C2 :=
  .seq (.reg [(⟨(some 2), .move (.const (.bool false)), none⟩, .bool)]) <|
  .seq (.reg [(⟨(some 3), .move (.tmp 0), none⟩, (.int .i64)),
      (⟨(some 4), .bin .geq (.tmp 3) (.const (.int .i64 1)), none⟩, .bool),
      (⟨(some 5), .move (.tmp 4), none⟩, .bool),
      (⟨(some 6), .move (.tmp 0), some (5, true)⟩, (.int .i64)),
      (⟨(some 7), .bin .leq (.tmp 6) (.const (.int .i64 8)), some (5, true)⟩, .bool),
      (⟨(some 8), .pick (.tmp 5) (.tmp 7) (.const (.bool false)), none⟩, .bool),
      (⟨(some 2), .move (.tmp 8), none⟩, .bool)]) <|
  .ret
noncomputable def sf_octet_may (n : Nat) : Sf := sfOf []
noncomputable def it_octet_may (n : Nat) : It := itOf []
def f_octet_may (n : Nat) (u0 : Int) (h : Heap) : Option ((Bool × Unit) × Heap) :=
  bif (decide (1 ≤ u0)) then
    (some (((decide (u0 ≤ 8)), ()), h))
  else
    (some ((false, ()), h))
def rs_octet_may : Rs := [(.tmp 2, .bool)]
def ps_octet_may : List Ty := [(.int .i64)]
theorem e_octet_may (n : Nat) (u0 : Int) (h : Heap) : f_octet_may n u0 h = fB (sf_octet_may n) (it_octet_may n) n c2_octet_may rs_octet_may ps_octet_may (u0, ()) h := by kernel_rfl
noncomputable def s_octet_may (n : Nat) : Sf1 := mkSf ps_octet_may rs_octet_may fun a h => f_octet_may n a.1 h

/- wicket/sum.push -/
def c2_sum_push : C2 :=
  .seq (.reg [(⟨(some 4), .move (.const (.int .u32 0)), none⟩, (.int .u32))]) <|
  .seq (.reg [(⟨(some 5), .move (.tmp 0), none⟩, (.int .u32)),
      (⟨(some 6), .move (.tmp 1), none⟩, (.int .u8)),
      (⟨(some 7), .conv .u32 (.tmp 6), none⟩, (.int .u32)),
      (⟨(some 8), .bin .xor (.tmp 5) (.tmp 7), none⟩, (.int .u32)),
      (⟨(some 0), .move (.tmp 8), none⟩, (.int .u32))]) <|
  .seq (.reg [(⟨(some 9), .move (.tmp 0), none⟩, (.int .u32)),
      (⟨(some 10), .bin .and (.tmp 9) (.const (.int .u32 15)), none⟩, (.int .u32)),
      (⟨(some 11), .idxArr 16 1 (.global 1) (.tmp 10), none⟩, .ptr),
      (⟨(some 12), .load false 1 (.tmp 11), none⟩, (.int .u32)),
      (⟨(some 13), .move (.tmp 0), none⟩, (.int .u32)),
      (⟨(some 14), .bin .shr (.tmp 13) (.const (.int .u64 4)), none⟩, (.int .u32)),
      (⟨(some 15), .bin .xor (.tmp 12) (.tmp 14), none⟩, (.int .u32)),
      (⟨(some 0), .move (.tmp 15), none⟩, (.int .u32))]) <|
  .seq (.reg [(⟨(some 16), .move (.tmp 0), none⟩, (.int .u32)),
      (⟨(some 17), .bin .and (.tmp 16) (.const (.int .u32 15)), none⟩, (.int .u32)),
      (⟨(some 18), .idxArr 16 1 (.global 1) (.tmp 17), none⟩, .ptr),
      (⟨(some 19), .load false 1 (.tmp 18), none⟩, (.int .u32)),
      (⟨(some 20), .move (.tmp 0), none⟩, (.int .u32)),
      (⟨(some 21), .bin .shr (.tmp 20) (.const (.int .u64 4)), none⟩, (.int .u32)),
      (⟨(some 22), .bin .xor (.tmp 19) (.tmp 21), none⟩, (.int .u32)),
      (⟨(some 4), .move (.tmp 22), none⟩, (.int .u32))]) <|
  .ret
noncomputable def sf_sum_push (n : Nat) : Sf := sfOf []
noncomputable def it_sum_push (n : Nat) : It := itOf []
def f_sum_push (n : Nat) (u0 : Int) (u1 : Int) (h : Heap) : Option ((Int × Unit) × Heap) :=
  (bitB .xor .u32 u0 .u32 (IntKind.u32.wrap (u1))).bind fun x0 =>
  (bitB .and .u32 x0 .u32 15).bind fun x1 =>
  (ixA 16 1 (some ⟨1, 0, none⟩) x1).bind fun q2 =>
  (ldT (.int .u32) h (some q2)).bind fun x3 =>
  (bitB .shr .u32 x0 .u64 4).bind fun x4 =>
  (bitB .xor .u32 x3 .u32 x4).bind fun x5 =>
  (bitB .and .u32 x5 .u32 15).bind fun x6 =>
  (ixA 16 1 (some ⟨1, 0, none⟩) x6).bind fun q7 =>
  (ldT (.int .u32) h (some q7)).bind fun x8 =>
  (bitB .shr .u32 x5 .u64 4).bind fun x9 =>
  (bitB .xor .u32 x8 .u32 x9).bind fun x10 =>
  some ((x10, ()), h)
def rs_sum_push : Rs := [(.tmp 4, (.int .u32))]
def ps_sum_push : List Ty := [(.int .u32), (.int .u8)]
theorem e_sum_push (n : Nat) (u0 : Int) (u1 : Int) (h : Heap) : f_sum_push n u0 u1 h = fB (sf_sum_push n) (it_sum_push n) n c2_sum_push rs_sum_push ps_sum_push (u0, (u1, ())) h := by kernel_rfl
noncomputable def s_sum_push (n : Nat) : Sf1 := mkSf ps_sum_push rs_sum_push fun a h => f_sum_push n a.1 a.2.1 h

/- wicket/super.within -/
def c2_super_within : C2 :=
  .seq (.reg [(⟨(some 4), .move (.const (.bool false)), none⟩, .bool)]) <|
  .seq (.reg [(⟨(some 5), .move (.tmp 0), none⟩, (.int .i64)),
      (⟨(some 6), .bin .geq (.tmp 5) (.const (.int .i64 1)), none⟩, .bool),
      (⟨(some 7), .move (.tmp 6), none⟩, .bool),
      (⟨(some 8), .move (.tmp 0), some (7, true)⟩, (.int .i64)),
      (⟨(some 9), .move (.tmp 1), some (7, true)⟩, (.int .i64)),
      (⟨(some 10), .bin .leq (.tmp 8) (.tmp 9), some (7, true)⟩, .bool),
      (⟨(some 11), .pick (.tmp 7) (.tmp 10) (.const (.bool false)), none⟩, .bool),
      (⟨(some 4), .move (.tmp 11), none⟩, .bool)]) <|
  .ret
noncomputable def sf_super_within (n : Nat) : Sf := sfOf []
noncomputable def it_super_within (n : Nat) : It := itOf []
def f_super_within (n : Nat) (u0 : Int) (u1 : Int) (h : Heap) : Option ((Bool × Unit) × Heap) :=
  bif (decide (1 ≤ u0)) then
    (some (((decide (u0 ≤ u1)), ()), h))
  else
    (some ((false, ()), h))
def rs_super_within : Rs := [(.tmp 4, .bool)]
def ps_super_within : List Ty := [(.int .i64), (.int .i64)]
theorem e_super_within (n : Nat) (u0 : Int) (u1 : Int) (h : Heap) : f_super_within n u0 u1 h = fB (sf_super_within n) (it_super_within n) n c2_super_within rs_super_within ps_super_within (u0, (u1, ())) h := by kernel_rfl
noncomputable def s_super_within (n : Nat) : Sf1 := mkSf ps_super_within rs_super_within fun a h => f_super_within n a.1 a.2.1 h

/- slices.Backward[[]wicket/sector.waiting,wicket/sector.waiting]$1 -/
def c2_slices_Backward_sector_waiting_sector_waiting_1 : C2 :=
  .seq (.reg [(⟨(some 4), .load false 1 (.tmp 1), none⟩, .any),
      (⟨(some 5), .lenS (.tmp 4), none⟩, (.int .i64)),
      (⟨(some 6), .bin .sub (.tmp 5) (.const (.int .i64 1)), none⟩, (.int .i64)),
      (⟨(some 3), .move (.tmp 6), none⟩, (.int .i64))]) <|
  .block 0 <|
    .loop [(3, (.int .i64))] <|
      .seq (.seq (.reg [(⟨(some 7), .move (.tmp 3), none⟩, (.int .i64)),
            (⟨(some 8), .bin .geq (.tmp 7) (.const (.int .i64 0)), none⟩, .bool)]) <|
        .cond (.tmp 8)
          (.skip)
          (.exit 0)) <|
      .seq (.block 1 <|
          .seq (.reg [(⟨(some 11), .move (.tmp 0), none⟩, .any),
              (⟨(some 12), .move (.tmp 3), none⟩, (.int .i64)),
              (⟨(some 13), .load false 1 (.tmp 1), none⟩, .any),
              (⟨(some 14), .move (.tmp 3), none⟩, (.int .i64)),
              (⟨(some 15), .idxSlice 65 (.tmp 13) (.tmp 14), none⟩, .ptr),
              (⟨(some 16), .load true 65 (.tmp 15), none⟩, .any),
              (⟨(some 17), .callv (.tmp 11) [(.tmp 12), (.tmp 16)], none⟩, .bool),
              (⟨(some 18), .un .not (.tmp 17), none⟩, .bool)]) <|
          .cond (.tmp 18)
            (.ret)
            (.skip)) <|
      .reg [(⟨(some 9), .move (.tmp 3), none⟩, (.int .i64)),
        (⟨(some 10), .bin .sub (.tmp 9) (.const (.int .i64 1)), none⟩, (.int .i64)),
        (⟨(some 3), .move (.tmp 10), none⟩, (.int .i64))]
def f_slices_Backward_sector_waiting_sector_waiting_1_L8 {V : Type} (hp : V → Heap) (up : V → Heap → V) (y : (Int × Value × Unit) → V → Option (Bool × V)) (n : Nat) (u0 : Option Addr) (v2 : Int) (w3 : V) : Option (((Int × Unit) × V) ⊕ (V)) :=
  bif (decide (0 ≤ v2)) then
    ((ldT .any (hp w3) u0).bind fun x4 =>
    (ixB 65 x4 v2).bind fun q5 =>
    (ldA 65 (hp w3) (some q5)).bind fun cs6 =>
    (y (v2, ((.agg ⟨cs6⟩), ())) w3).bind fun p7 =>
    bif (!p7.1) then
      (some (.inr p7.2))
    else
      (some (.inl (((IntKind.i64.wrap (v2 - 1)), ()), p7.2))))
  else
    (some (.inr w3))
noncomputable def sf_slices_Backward_sector_waiting_sector_waiting_1 (n : Nat) : Sf := sfOf []
noncomputable def it_slices_Backward_sector_waiting_sector_waiting_1 (n : Nat) : It := itOf []
def f_slices_Backward_sector_waiting_sector_waiting_1 {V : Type} (hp : V → Heap) (up : V → Heap → V) (y : (Int × Value × Unit) → V → Option (Bool × V)) (n : Nat) (u0 : Option Addr) (w : V) : Option V :=
  (ldT .any (hp w) u0).bind fun x0 =>
  (lenB x0).bind fun n1 =>
  loopT (fun a => f_slices_Backward_sector_waiting_sector_waiting_1_L8 hp up y n u0 a.1.1 a.2) n (((IntKind.i64.wrap ((n1 : Int) - 1)), ()), w)
theorem e_slices_Backward_sector_waiting_sector_waiting_1 {V : Type} (hp : V → Heap) (up : V → Heap → V) (y : (Int × Value × Unit) → V → Option (Bool × V)) (n : Nat) (u0 : Option Addr) (w : V) : f_slices_Backward_sector_waiting_sector_waiting_1 hp up y n u0 w = fI (sf_slices_Backward_sector_waiting_sector_waiting_1 n) (it_slices_Backward_sector_waiting_sector_waiting_1 n) n c2_slices_Backward_sector_waiting_sector_waiting_1 [] [.ptr] [(.int .i64), .any] hp up y () (u0, ()) w := by kernel_rfl
noncomputable def i_slices_Backward_sector_waiting_sector_waiting_1 (n : Nat) : It1 := mkIt [] [.ptr] [(.int .i64), .any] fun hp up y _ a2 v => f_slices_Backward_sector_waiting_sector_waiting_1 hp up y n a2.1 v

/- (*wicket/sector.Disk).Waiting -/
def c2_sector_Disk_Waiting : C2 :=
  .seq (.reg [(⟨(some 2), .move (.const (.slice none 0 0)), none⟩, .any)]) <|
  .seq (.seq (.reg [(⟨(some 6), .move (.tmp 0), none⟩, .ptr),
        (⟨(some 7), .eqv false .ptr (.tmp 6) (.const (.pointer none)), none⟩, .bool)]) <|
    .cond (.tmp 7)
      (.seq (.reg [(⟨(some 2), .move (.const (.slice none 0 0)), none⟩, .any)]) <|
      .ret)
      (.skip)) <|
  .seq (.reg [(⟨(some 3), .move (.const (.slice none 0 0)), none⟩, .any)]) <|
  .seq (.seq (.reg [(⟨(some 8), .move (.tmp 0), none⟩, .ptr),
        (⟨(some 9), .nilCheck (.tmp 8), none⟩, .ptr),
        (⟨(some 10), .fieldAddr 1 (.tmp 9), none⟩, .ptr),
        (⟨(some 11), .load false 1 (.tmp 10), none⟩, .any),
        (⟨(some 12), .lenS (.tmp 11), none⟩, (.int .i64)),
        (⟨(some 13), .move (.const (.int .i64 0)), none⟩, (.int .i64))]) <|
    .block 0 <|
      .loop [(3, .any), (13, (.int .i64))] <|
        .seq (.reg [(⟨(some 14), .bin .lss (.tmp 13) (.tmp 12), none⟩, .any)]) <|
        .seq (.cond (.tmp 14)
            (.skip)
            (.exit 0)) <|
        .seq (.block 1 <|
            .seq (.reg [(⟨(some 15), .idxSlice 65 (.tmp 11) (.tmp 13), none⟩, .ptr),
                (⟨(some 16), .load true 65 (.tmp 15), none⟩, .any),
                (⟨(some 5), .alloc [(.int .i64 0), (.int .u8 0), (.int .u8 0), (.int .u8 0), (.int .u8 0), (.int .u8 0), (.int .u8 0), (.int .u8 0), (.int .u8 0), (.int .u8 0), (.int .u8 0), (.int .u8 0), (.int .u8 0), (.int .u8 0), (.int .u8 0), (.int .u8 0), (.int .u8 0), (.int .u8 0), (.int .u8 0), (.int .u8 0), (.int .u8 0), (.int .u8 0), (.int .u8 0), (.int .u8 0), (.int .u8 0), (.int .u8 0), (.int .u8 0), (.int .u8 0), (.int .u8 0), (.int .u8 0), (.int .u8 0), (.int .u8 0), (.int .u8 0), (.int .u8 0), (.int .u8 0), (.int .u8 0), (.int .u8 0), (.int .u8 0), (.int .u8 0), (.int .u8 0), (.int .u8 0), (.int .u8 0), (.int .u8 0), (.int .u8 0), (.int .u8 0), (.int .u8 0), (.int .u8 0), (.int .u8 0), (.int .u8 0), (.int .u8 0), (.int .u8 0), (.int .u8 0), (.int .u8 0), (.int .u8 0), (.int .u8 0), (.int .u8 0), (.int .u8 0), (.int .u8 0), (.int .u8 0), (.int .u8 0), (.int .u8 0), (.int .u8 0), (.int .u8 0), (.int .u8 0), (.int .u8 0)], none⟩, .ptr),
                (⟨none, .store 65 (.tmp 5) (.tmp 16), none⟩, .any)]) <|
            .regd [(⟨0, [], false, ⟨(some 17), .move (.tmp 3), none⟩⟩, .any),
              (⟨1, [], false, ⟨(some 18), .fieldAddr 0 (.tmp 5), none⟩⟩, .ptr),
              (⟨2, [1], false, ⟨(some 19), .load false 1 (.tmp 18), none⟩⟩, (.int .i64)),
              (⟨3, [], false, ⟨(some 20), .fieldAddr 1 (.tmp 5), none⟩⟩, .ptr),
              (⟨4, [3], false, ⟨(some 21), .sliceArr 64 1 (.tmp 20) none none none, none⟩⟩, .any),
              (⟨5, [4, 3], true, ⟨(some 22), .call k_slices_Clone_byte_byte [(.tmp 21)], none⟩⟩, .any),
              (⟨6, [2, 5, 1, 4, 3], false, ⟨(some 23), .build [(.int .i64 0), (.slice none 0 0)] [(0, 1, (.tmp 19)), (1, 1, (.tmp 22))], none⟩⟩, .any),
              (⟨7, [6, 2, 5, 1, 4, 3], false, ⟨(some 24), .buildSlice 1 2 [(.int .i64 0), (.slice none 0 0)] [(0, 2, (.tmp 23))], none⟩⟩, .any),
              (⟨8, [0, 7, 5, 6, 2, 1, 4, 3], true, ⟨(some 25), .append 32 2 (.tmp 17) (.tmp 24), none⟩⟩, .any),
              (⟨9, [8, 0, 1, 2, 3, 4, 5, 6, 7], true, ⟨(some 3), .move (.tmp 25), none⟩⟩, .any)]) <|
        .reg [(⟨(some 26), .bin .add (.tmp 13) (.const (.int .i64 1)), none⟩, (.int .i64)),
          (⟨(some 13), .move (.tmp 26), none⟩, (.int .i64))]) <|
  .seq (.reg [(⟨(some 27), .move (.tmp 3), none⟩, .any),
      (⟨(some 2), .move (.tmp 27), none⟩, .any)]) <|
  .ret
def f_sector_Disk_Waiting_L18 (n : Nat) (x1 : Value) (n2 : Nat) (v3 : Value) (v4 : Int) (h5 : Heap) : Option (((Value × Int × Unit) × Heap) ⊕ ((Value × Unit) × Heap)) :=
  bif (decide (v4 < (n2 : Int))) then
    ((ixB 65 x1 v4).bind fun q6 =>
    (ldA 65 h5 (some q6)).bind fun cs7 =>
    bnd ((Heap.new h5 (.cells [(.int .i64 0), (.int .u8 0), (.int .u8 0), (.int .u8 0), (.int .u8 0), (.int .u8 0), (.int .u8 0), (.int .u8 0), (.int .u8 0), (.int .u8 0), (.int .u8 0), (.int .u8 0), (.int .u8 0), (.int .u8 0), (.int .u8 0), (.int .u8 0), (.int .u8 0), (.int .u8 0), (.int .u8 0), (.int .u8 0), (.int .u8 0), (.int .u8 0), (.int .u8 0), (.int .u8 0), (.int .u8 0), (.int .u8 0), (.int .u8 0), (.int .u8 0), (.int .u8 0), (.int .u8 0), (.int .u8 0), (.int .u8 0), (.int .u8 0), (.int .u8 0), (.int .u8 0), (.int .u8 0), (.int .u8 0), (.int .u8 0), (.int .u8 0), (.int .u8 0), (.int .u8 0), (.int .u8 0), (.int .u8 0), (.int .u8 0), (.int .u8 0), (.int .u8 0), (.int .u8 0), (.int .u8 0), (.int .u8 0), (.int .u8 0), (.int .u8 0), (.int .u8 0), (.int .u8 0), (.int .u8 0), (.int .u8 0), (.int .u8 0), (.int .u8 0), (.int .u8 0), (.int .u8 0), (.int .u8 0), (.int .u8 0), (.int .u8 0), (.int .u8 0), (.int .u8 0), (.int .u8 0)] false 0))) fun h8 =>
    (stB 65 (.agg ⟨cs7⟩) h8 (some (nwA h5))).bind fun h9 =>
    (ldT (.int .i64) h9 (some (fa (nwA h5) 0))).bind fun x10 =>
    (sliceArrK h9 64 1 none none (.pointer (some (fa (nwA h5) 1)))).bind fun p11 =>
    (f_slices_Clone_byte_byte n p11.1 (hid h9 [] ((Addr.block (fa (nwA h5) 0)) :: []))).bind fun p12 =>
    bnd (Heap.putBack p12.2 h9 ([] ++ ((Addr.block (fa (nwA h5) 0)) :: []))) fun h13 =>
    (fillL [(.int .i64 0), (.slice none 0 0)] [(0, 1, (.int .i64 x10)), (1, 1, p12.1.1)]).bind fun cs14 =>
    (fillL [(.int .i64 0), (.slice none 0 0)] [(0, 2, (.agg ⟨cs14⟩))]).bind fun cs15 =>
    bnd ((Heap.new h13 (.cells cs15 false 2))) fun h16 =>
    (appendK h16 32 2 v3 (.slice (some ⟨Heap.next h13, 0, some 0⟩) 1 1)).bind fun p17 =>
    some (.inl ((p17.1, ((IntKind.i64.wrap (v4 + 1)), ())), p17.2)))
  else
    (Option.map Sum.inr (bif !isTuple v3 then
      (some ((v3, ()), h5))
    else
      (none)))
noncomputable def sf_sector_Disk_Waiting (n : Nat) : Sf := sfOf [(k_slices_Clone_byte_byte, s_slices_Clone_byte_byte n)]
noncomputable def it_sector_Disk_Waiting (n : Nat) : It := itOf []
def f_sector_Disk_Waiting (n : Nat) (u0 : Option Addr) (h : Heap) : Option ((Value × Unit) × Heap) :=
  bif (Option.isNone u0) then
    (some (((.slice none 0 0), ()), h))
  else
    ((u0).bind fun q0 =>
    (ldT .any h (some (fa q0 1))).bind fun x1 =>
    (lenB x1).bind fun n2 =>
    loopT (fun a => f_sector_Disk_Waiting_L18 n x1 n2 a.1.1 a.1.2.1 a.2) n (((.slice none 0 0), (0, ())), h))
def rs_sector_Disk_Waiting : Rs := [(.tmp 2, .any)]
def ps_sector_Disk_Waiting : List Ty := [.ptr]
theorem e_sector_Disk_Waiting (n : Nat) (u0 : Option Addr) (h : Heap) : f_sector_Disk_Waiting n u0 h = fB (sf_sector_Disk_Waiting n) (it_sector_Disk_Waiting n) n c2_sector_Disk_Waiting rs_sector_Disk_Waiting ps_sector_Disk_Waiting (u0, ()) h := by kernel_rfl
noncomputable def s_sector_Disk_Waiting (n : Nat) : Sf1 := mkSf ps_sector_Disk_Waiting rs_sector_Disk_Waiting fun a h => f_sector_Disk_Waiting n a.1 h

/- (*wicket/sector.Disk).Write -/
def c2_sector_Disk_Write : C2 :=
  .seq (.reg [(⟨(some 6), .move (.const (.int .i64 0)), none⟩, (.int .i64))]) <|
  .seq (.seq (.reg [(⟨(some 8), .move (.tmp 0), none⟩, .ptr),
        (⟨(some 9), .move (.tmp 1), none⟩, (.int .i64)),
        (⟨(some 10), .call k_sector_Disk_asked [(.tmp 8), (.tmp 9)], none⟩, (.int .i64)),
        (⟨(some 7), .move (.tmp 10), none⟩, (.int .i64))]) <|
    .seq (.reg [(⟨(some 11), .move (.tmp 7), none⟩, (.int .i64)),
        (⟨(some 12), .bin .neq (.tmp 11) (.const (.int .i64 0)), none⟩, .bool)]) <|
    .cond (.tmp 12)
      (.seq (.reg [(⟨(some 13), .move (.tmp 7), none⟩, (.int .i64)),
          (⟨(some 6), .move (.tmp 13), none⟩, (.int .i64))]) <|
      .ret)
      (.skip)) <|
  .seq (.seq (.reg [(⟨(some 14), .move (.tmp 2), none⟩, .any),
        (⟨(some 15), .lenS (.tmp 14), none⟩, (.int .i64)),
        (⟨(some 16), .bin .neq (.tmp 15) (.const (.int .i64 64)), none⟩, .bool)]) <|
    .cond (.tmp 16)
      (.seq (.reg [(⟨(some 6), .move (.const (.int .i64 2)), none⟩, (.int .i64))]) <|
      .ret)
      (.skip)) <|
  .seq (.regd [(⟨0, [], false, ⟨(some 17), .move (.tmp 0), none⟩⟩, .ptr),
      (⟨1, [], false, ⟨(some 18), .move (.tmp 0), none⟩⟩, .ptr),
      (⟨2, [1], false, ⟨(some 19), .nilCheck (.tmp 18), none⟩⟩, .ptr),
      (⟨3, [2, 1], false, ⟨(some 20), .fieldAddr 1 (.tmp 19), none⟩⟩, .ptr),
      (⟨4, [3, 2, 1], false, ⟨(some 21), .load false 1 (.tmp 20), none⟩⟩, .any),
      (⟨5, [], false, ⟨(some 22), .move (.tmp 1), none⟩⟩, (.int .i64)),
      (⟨6, [], false, ⟨(some 23), .move (.tmp 2), none⟩⟩, .any),
      (⟨7, [6], false, ⟨(some 24), .arrAt 64 (.tmp 23), none⟩⟩, .ptr),
      (⟨8, [7, 6], false, ⟨(some 25), .load true 64 (.tmp 24), none⟩⟩, .any),
      (⟨9, [5, 8, 7, 6], false, ⟨(some 26), .build [(.int .i64 0), (.int .u8 0), (.int .u8 0), (.int .u8 0), (.int .u8 0), (.int .u8 0), (.int .u8 0), (.int .u8 0), (.int .u8 0), (.int .u8 0), (.int .u8 0), (.int .u8 0), (.int .u8 0), (.int .u8 0), (.int .u8 0), (.int .u8 0), (.int .u8 0), (.int .u8 0), (.int .u8 0), (.int .u8 0), (.int .u8 0), (.int .u8 0), (.int .u8 0), (.int .u8 0), (.int .u8 0), (.int .u8 0), (.int .u8 0), (.int .u8 0), (.int .u8 0), (.int .u8 0), (.int .u8 0), (.int .u8 0), (.int .u8 0), (.int .u8 0), (.int .u8 0), (.int .u8 0), (.int .u8 0), (.int .u8 0), (.int .u8 0), (.int .u8 0), (.int .u8 0), (.int .u8 0), (.int .u8 0), (.int .u8 0), (.int .u8 0), (.int .u8 0), (.int .u8 0), (.int .u8 0), (.int .u8 0), (.int .u8 0), (.int .u8 0), (.int .u8 0), (.int .u8 0), (.int .u8 0), (.int .u8 0), (.int .u8 0), (.int .u8 0), (.int .u8 0), (.int .u8 0), (.int .u8 0), (.int .u8 0), (.int .u8 0), (.int .u8 0), (.int .u8 0), (.int .u8 0)] [(0, 1, (.tmp 22)), (1, 64, (.tmp 25))], none⟩⟩, .any),
      (⟨10, [9, 5, 8, 7, 6], false, ⟨(some 27), .buildSlice 1 65 [(.int .i64 0), (.int .u8 0), (.int .u8 0), (.int .u8 0), (.int .u8 0), (.int .u8 0), (.int .u8 0), (.int .u8 0), (.int .u8 0), (.int .u8 0), (.int .u8 0), (.int .u8 0), (.int .u8 0), (.int .u8 0), (.int .u8 0), (.int .u8 0), (.int .u8 0), (.int .u8 0), (.int .u8 0), (.int .u8 0), (.int .u8 0), (.int .u8 0), (.int .u8 0), (.int .u8 0), (.int .u8 0), (.int .u8 0), (.int .u8 0), (.int .u8 0), (.int .u8 0), (.int .u8 0), (.int .u8 0), (.int .u8 0), (.int .u8 0), (.int .u8 0), (.int .u8 0), (.int .u8 0), (.int .u8 0), (.int .u8 0), (.int .u8 0), (.int .u8 0), (.int .u8 0), (.int .u8 0), (.int .u8 0), (.int .u8 0), (.int .u8 0), (.int .u8 0), (.int .u8 0), (.int .u8 0), (.int .u8 0), (.int .u8 0), (.int .u8 0), (.int .u8 0), (.int .u8 0), (.int .u8 0), (.int .u8 0), (.int .u8 0), (.int .u8 0), (.int .u8 0), (.int .u8 0), (.int .u8 0), (.int .u8 0), (.int .u8 0), (.int .u8 0), (.int .u8 0), (.int .u8 0)] [(0, 65, (.tmp 26))], none⟩⟩, .any),
      (⟨11, [4, 10, 3, 2, 1, 9, 5, 8, 7, 6], true, ⟨(some 28), .append 72 65 (.tmp 21) (.tmp 27), none⟩⟩, .any),
      (⟨12, [0, 1, 2, 3, 4, 5, 6, 7, 8, 9, 10, 11], false, ⟨(some 29), .nilCheck (.tmp 17), none⟩⟩, .ptr),
      (⟨13, [12, 0, 1, 2, 3, 4, 5, 6, 7, 8, 9, 10, 11], false, ⟨(some 30), .fieldAddr 1 (.tmp 29), none⟩⟩, .ptr),
      (⟨14, [13, 11, 0, 1, 2, 3, 4, 5, 6, 7, 8, 9, 10, 12], true, ⟨none, .store 1 (.tmp 30) (.tmp 28), none⟩⟩, .any)]) <|
  .seq (.reg [(⟨(some 6), .move (.const (.int .i64 0)), none⟩, (.int .i64))]) <|
  .ret
noncomputable def sf_sector_Disk_Write (n : Nat) : Sf := sfOf [(k_sector_Disk_asked, s_sector_Disk_asked n)]
noncomputable def it_sector_Disk_Write (n : Nat) : It := itOf []
def f_sector_Disk_Write (n : Nat) (u0 : Option Addr) (u1 : Int) (u2 : Value) (h : Heap) : Option ((Int × Unit) × Heap) :=
  (f_sector_Disk_asked n u0 u1 h).bind fun p0 =>
  bif (!decide (p0.1.1 = 0)) then
    (some ((p0.1.1, ()), p0.2))
  else
    ((lenB u2).bind fun n1 =>
    bif (!decide ((n1 : Int) = 64)) then
      (some ((2, ()), p0.2))
    else
      ((u0).bind fun q2 =>
      (ldT .any p0.2 (some (fa q2 1))).bind fun x3 =>
      (arrB p0.2 64 u2).bind fun q4 =>
      (ldA 64 p0.2 q4).bind fun cs5 =>
      (fillL [(.int .i64 0), (.int .u8 0), (.int .u8 0), (.int .u8 0), (.int .u8 0), (.int .u8 0), (.int .u8 0), (.int .u8 0), (.int .u8 0), (.int .u8 0), (.int .u8 0), (.int .u8 0), (.int .u8 0), (.int .u8 0), (.int .u8 0), (.int .u8 0), (.int .u8 0), (.int .u8 0), (.int .u8 0), (.int .u8 0), (.int .u8 0), (.int .u8 0), (.int .u8 0), (.int .u8 0), (.int .u8 0), (.int .u8 0), (.int .u8 0), (.int .u8 0), (.int .u8 0), (.int .u8 0), (.int .u8 0), (.int .u8 0), (.int .u8 0), (.int .u8 0), (.int .u8 0), (.int .u8 0), (.int .u8 0), (.int .u8 0), (.int .u8 0), (.int .u8 0), (.int .u8 0), (.int .u8 0), (.int .u8 0), (.int .u8 0), (.int .u8 0), (.int .u8 0), (.int .u8 0), (.int .u8 0), (.int .u8 0), (.int .u8 0), (.int .u8 0), (.int .u8 0), (.int .u8 0), (.int .u8 0), (.int .u8 0), (.int .u8 0), (.int .u8 0), (.int .u8 0), (.int .u8 0), (.int .u8 0), (.int .u8 0), (.int .u8 0), (.int .u8 0), (.int .u8 0), (.int .u8 0)] [(0, 1, (.int .i64 u1)), (1, 64, (.agg ⟨cs5⟩))]).bind fun cs6 =>
      (fillL [(.int .i64 0), (.int .u8 0), (.int .u8 0), (.int .u8 0), (.int .u8 0), (.int .u8 0), (.int .u8 0), (.int .u8 0), (.int .u8 0), (.int .u8 0), (.int .u8 0), (.int .u8 0), (.int .u8 0), (.int .u8 0), (.int .u8 0), (.int .u8 0), (.int .u8 0), (.int .u8 0), (.int .u8 0), (.int .u8 0), (.int .u8 0), (.int .u8 0), (.int .u8 0), (.int .u8 0), (.int .u8 0), (.int .u8 0), (.int .u8 0), (.int .u8 0), (.int .u8 0), (.int .u8 0), (.int .u8 0), (.int .u8 0), (.int .u8 0), (.int .u8 0), (.int .u8 0), (.int .u8 0), (.int .u8 0), (.int .u8 0), (.int .u8 0), (.int .u8 0), (.int .u8 0), (.int .u8 0), (.int .u8 0), (.int .u8 0), (.int .u8 0), (.int .u8 0), (.int .u8 0), (.int .u8 0), (.int .u8 0), (.int .u8 0), (.int .u8 0), (.int .u8 0), (.int .u8 0), (.int .u8 0), (.int .u8 0), (.int .u8 0), (.int .u8 0), (.int .u8 0), (.int .u8 0), (.int .u8 0), (.int .u8 0), (.int .u8 0), (.int .u8 0), (.int .u8 0), (.int .u8 0)] [(0, 65, (.agg ⟨cs6⟩))]).bind fun cs7 =>
      bnd ((Heap.new p0.2 (.cells cs7 false 65))) fun h8 =>
      (appendK h8 72 65 x3 (.slice (some ⟨Heap.next p0.2, 0, some 0⟩) 1 1)).bind fun p9 =>
      (u0).bind fun q10 =>
      (stB 1 p9.1 p9.2 (some (fa q10 1))).bind fun h11 =>
      some ((0, ()), h11)))
def rs_sector_Disk_Write : Rs := [(.tmp 6, (.int .i64))]
def ps_sector_Disk_Write : List Ty := [.ptr, (.int .i64), .any]
theorem e_sector_Disk_Write (n : Nat) (u0 : Option Addr) (u1 : Int) (u2 : Value) (h : Heap) : f_sector_Disk_Write n u0 u1 u2 h = fB (sf_sector_Disk_Write n) (it_sector_Disk_Write n) n c2_sector_Disk_Write rs_sector_Disk_Write ps_sector_Disk_Write (u0, (u1, (u2, ()))) h := by kernel_rfl
noncomputable def s_sector_Disk_Write (n : Nat) : Sf1 := mkSf ps_sector_Disk_Write rs_sector_Disk_Write fun a h => f_sector_Disk_Write n a.1 a.2.1 a.2.2.1 h

/- wicket/octet.Put -/
def c2_octet_Put : C2 :=
  .seq (.reg [(⟨(some 4), .move (.const (.slice none 0 0)), none⟩, .any),
      (⟨(some 5), .move (.const (.int .i64 0)), none⟩, (.int .i64))]) <|
  .seq (.seq (.reg [(⟨(some 8), .move (.tmp 1), none⟩, (.int .i64)),
        (⟨(some 9), .call k_octet_may [(.tmp 8)], none⟩, .bool),
        (⟨(some 10), .un .not (.tmp 9), none⟩, .bool)]) <|
    .cond (.tmp 10)
      (.seq (.reg [(⟨(some 4), .move (.const (.slice none 0 0)), none⟩, .any),
          (⟨(some 5), .move (.const (.int .i64 2)), none⟩, (.int .i64))]) <|
      .ret)
      (.skip)) <|
  .seq (.reg [(⟨(some 11), .move (.tmp 1), none⟩, (.int .i64)),
      (⟨(some 12), .makeSlice 1 1 [(.int .u8 0)] (.tmp 11) (.tmp 11), none⟩, .any),
      (⟨(some 6), .move (.tmp 12), none⟩, .any)]) <|
  .seq (.cutn [(0, (.int .u64))] <|
      .seq (.reg [(⟨(some 13), .move (.tmp 6), none⟩, .any),
          (⟨(some 14), .lenS (.tmp 13), none⟩, (.int .i64)),
          (⟨(some 15), .move (.const (.int .i64 0)), none⟩, (.int .i64))]) <|
      .block 0 <|
        .loop [(0, (.int .u64)), (15, (.int .i64))] <|
          .seq (.reg [(⟨(some 16), .bin .lss (.tmp 15) (.tmp 14), none⟩, .any)]) <|
          .seq (.cond (.tmp 16)
              (.skip)
              (.exit 0)) <|
          .seq (.block 1 <|
              .seq (.reg [(⟨(some 17), .move (.tmp 15), none⟩, (.int .i64)),
                  (⟨(some 7), .move (.tmp 17), none⟩, (.int .i64))]) <|
              .seq (.reg [(⟨(some 18), .move (.tmp 6), none⟩, .any),
                  (⟨(some 19), .move (.tmp 7), none⟩, (.int .i64)),
                  (⟨(some 20), .move (.tmp 0), none⟩, (.int .u64)),
                  (⟨(some 21), .conv .u8 (.tmp 20), none⟩, (.int .u8)),
                  (⟨(some 22), .idxSlice 1 (.tmp 18) (.tmp 19), none⟩, .ptr),
                  (⟨none, .store 1 (.tmp 22) (.tmp 21), none⟩, .any)]) <|
              .reg [(⟨(some 23), .move (.tmp 0), none⟩, (.int .u64)),
                (⟨(some 24), .bin .shr (.tmp 23) (.const (.int .u64 8)), none⟩, (.int .u64)),
                (⟨(some 0), .move (.tmp 24), none⟩, (.int .u64))]) <|
          .reg [(⟨(some 25), .bin .add (.tmp 15) (.const (.int .i64 1)), none⟩, (.int .i64)),
            (⟨(some 15), .move (.tmp 25), none⟩, (.int .i64))]) <|
  .seq (.seq (.reg [(⟨(some 26), .move (.tmp 0), none⟩, (.int .u64)),
        (⟨(some 27), .bin .neq (.tmp 26) (.const (.int .u64 0)), none⟩, .bool)]) <|
    .cond (.tmp 27)
      (.seq (.reg [(⟨(some 4), .move (.const (.slice none 0 0)), none⟩, .any),
          (⟨(some 5), .move (.const (.int .i64 10)), none⟩, (.int .i64))]) <|
      .ret)
      (.skip)) <|
  .seq (.reg [(⟨(some 28), .move (.tmp 6), none⟩, .any),
      (⟨(some 4), .move (.tmp 28), none⟩, .any),
      (⟨(some 5), .move (.const (.int .i64 0)), none⟩, (.int .i64))]) <|
  .ret
def f_octet_Put_L10 (n : Nat) (p1 : (Value × AObj)) (n3 : Nat) (v4 : Int) (v5 : Int) (h6 : Heap) : Option (((Int × Int × Unit) × Heap) ⊕ ((Int × Unit) × Heap)) :=
  bif (decide (v5 < (n3 : Int))) then
    ((ixB 1 p1.1 v5).bind fun q7 =>
    (stB 1 (.int .u8 (IntKind.u8.wrap (v4))) h6 (some q7)).bind fun h8 =>
    (bitB .shr .u64 v4 .u64 8).bind fun x9 =>
    some (.inl ((x9, ((IntKind.i64.wrap (v5 + 1)), ())), h8)))
  else
    (some (.inr ((v4, ()), h6)))
noncomputable def sf_octet_Put (n : Nat) : Sf := sfOf [(k_octet_may, s_octet_may n)]
noncomputable def it_octet_Put (n : Nat) : It := itOf []
def f_octet_Put (n : Nat) (u0 : Int) (u1 : Int) (h : Heap) : Option ((Value × Int × Unit) × Heap) :=
  (f_octet_may n u1 h).bind fun p0 =>
  bif (!p0.1.1) then
    (some (((.slice none 0 0), (2, ())), p0.2))
  else
    ((mkSl (Heap.next p0.2) 1 1 [(.int .u8 0)] (.int .i64 u1) (.int .i64 u1)).bind fun p1 =>
    bnd ((Heap.new p0.2 (p1.2))) fun h2 =>
    (((lenB p1.1).bind fun n3 =>
      loopT (fun a => f_octet_Put_L10 n p1 n3 a.1.1 a.1.2.1 a.2) n ((u0, (0, ())), h2)) : Option ((Int × Unit) × Heap)).bind fun a11 =>
    bif (!decide (a11.1.1 = 0)) then
      (some (((.slice none 0 0), (10, ())), a11.2))
    else
      (bif !isTuple p1.1 then
        (some ((p1.1, (0, ())), a11.2))
      else
        (none)))
def rs_octet_Put : Rs := [(.tmp 4, .any), (.tmp 5, (.int .i64))]
def ps_octet_Put : List Ty := [(.int .u64), (.int .i64)]
theorem e_octet_Put (n : Nat) (u0 : Int) (u1 : Int) (h : Heap) : f_octet_Put n u0 u1 h = fB (sf_octet_Put n) (it_octet_Put n) n c2_octet_Put rs_octet_Put ps_octet_Put (u0, (u1, ())) h := by kernel_rfl
noncomputable def s_octet_Put (n : Nat) : Sf1 := mkSf ps_octet_Put rs_octet_Put fun a h => f_octet_Put n a.1 a.2.1 h

/- wicket/sum.Of -/
def c2_sum_Of : C2 :=
  .seq (.reg [(⟨(some 2), .move (.const (.int .u32 0)), none⟩, (.int .u32))]) <|
  .seq (.reg [(⟨(some 3), .move (.const (.int .u32 4294967295)), none⟩, (.int .u32))]) <|
  .seq (.cutn [(3, (.int .u32))] <|
      .seq (.reg [(⟨(some 8), .move (.tmp 0), none⟩, .any),
          (⟨(some 9), .lenS (.tmp 8), none⟩, (.int .i64)),
          (⟨(some 10), .move (.const (.int .i64 0)), none⟩, (.int .i64))]) <|
      .block 0 <|
        .loop [(3, (.int .u32)), (10, (.int .i64))] <|
          .seq (.reg [(⟨(some 11), .bin .lss (.tmp 10) (.tmp 9), none⟩, .any)]) <|
          .seq (.cond (.tmp 11)
              (.skip)
              (.exit 0)) <|
          .seq (.cutn [(3, (.int .u32))] <|
              .block 1 <|
                .seq (.reg [(⟨(some 12), .idxSlice 1 (.tmp 8) (.tmp 10), none⟩, .ptr),
                    (⟨(some 13), .load false 1 (.tmp 12), none⟩, .any),
                    (⟨(some 5), .move (.tmp 13), none⟩, .any)]) <|
                .seq (.reg [(⟨(some 14), .move (.tmp 5), none⟩, .any),
                    (⟨(some 15), .lenS (.tmp 14), none⟩, (.int .i64)),
                    (⟨(some 16), .move (.const (.int .i64 0)), none⟩, (.int .i64))]) <|
                .block 2 <|
                  .loop [(3, (.int .u32)), (16, (.int .i64))] <|
                    .seq (.reg [(⟨(some 17), .bin .lss (.tmp 16) (.tmp 15), none⟩, .any)]) <|
                    .seq (.cond (.tmp 17)
                        (.skip)
                        (.exit 2)) <|
                    .seq (.block 3 <|
                        .seq (.reg [(⟨(some 18), .idxSlice 1 (.tmp 14) (.tmp 16), none⟩, .ptr),
                            (⟨(some 19), .load false 1 (.tmp 18), none⟩, (.int .u8)),
                            (⟨(some 7), .move (.tmp 19), none⟩, (.int .u8))]) <|
                        .reg [(⟨(some 20), .move (.tmp 3), none⟩, (.int .u32)),
                          (⟨(some 21), .move (.tmp 7), none⟩, (.int .u8)),
                          (⟨(some 22), .call k_sum_push [(.tmp 20), (.tmp 21)], none⟩, (.int .u32)),
                          (⟨(some 3), .move (.tmp 22), none⟩, (.int .u32))]) <|
                    .reg [(⟨(some 23), .bin .add (.tmp 16) (.const (.int .i64 1)), none⟩, (.int .i64)),
                      (⟨(some 16), .move (.tmp 23), none⟩, (.int .i64))]) <|
          .reg [(⟨(some 24), .bin .add (.tmp 10) (.const (.int .i64 1)), none⟩, (.int .i64)),
            (⟨(some 10), .move (.tmp 24), none⟩, (.int .i64))]) <|
  .seq (.reg [(⟨(some 25), .move (.tmp 3), none⟩, (.int .u32)),
      (⟨(some 26), .un .xor (.tmp 25), none⟩, (.int .u32)),
      (⟨(some 2), .move (.tmp 26), none⟩, (.int .u32))]) <|
  .ret
def f_sum_Of_L13 (n : Nat) (x5 : Value) (n6 : Nat) (v7 : Int) (v8 : Int) (h9 : Heap) : Option (((Int × Int × Unit) × Heap) ⊕ ((Int × Unit) × Heap)) :=
  bif (decide (v8 < (n6 : Int))) then
    ((ixB 1 x5 v8).bind fun q10 =>
    (ldT (.int .u8) h9 (some q10)).bind fun x11 =>
    (f_sum_push n v7 x11 h9).bind fun p12 =>
    some (.inl ((p12.1.1, ((IntKind.i64.wrap (v8 + 1)), ())), p12.2)))
  else
    (some (.inr ((v7, ()), h9)))
def f_sum_Of_L15 (n : Nat) (u0 : Value) (n0 : Nat) (v1 : Int) (v2 : Int) (h3 : Heap) : Option (((Int × Int × Unit) × Heap) ⊕ ((Int × Unit) × Heap)) :=
  bif (decide (v2 < (n0 : Int))) then
    ((((ixB 1 u0 v2).bind fun q4 =>
      (ldT .any h3 (some q4)).bind fun x5 =>
      (lenB x5).bind fun n6 =>
      loopT (fun a => f_sum_Of_L13 n x5 n6 a.1.1 a.1.2.1 a.2) n ((v1, (0, ())), h3)) : Option ((Int × Unit) × Heap)).bind fun a14 =>
    some (.inl ((a14.1.1, ((IntKind.i64.wrap (v2 + 1)), ())), a14.2)))
  else
    (some (.inr ((v1, ()), h3)))
noncomputable def sf_sum_Of (n : Nat) : Sf := sfOf [(k_sum_push, s_sum_push n)]
noncomputable def it_sum_Of (n : Nat) : It := itOf []
def f_sum_Of (n : Nat) (u0 : Value) (h : Heap) : Option ((Int × Unit) × Heap) :=
  (((lenB u0).bind fun n0 =>
    loopT (fun a => f_sum_Of_L15 n u0 n0 a.1.1 a.1.2.1 a.2) n ((4294967295, (0, ())), h)) : Option ((Int × Unit) × Heap)).bind fun a16 =>
  (unB .xor .u32 a16.1.1).bind fun x17 =>
  some ((x17, ()), a16.2)
def rs_sum_Of : Rs := [(.tmp 2, (.int .u32))]
def ps_sum_Of : List Ty := [.any]
theorem e_sum_Of (n : Nat) (u0 : Value) (h : Heap) : f_sum_Of n u0 h = fB (sf_sum_Of n) (it_sum_Of n) n c2_sum_Of rs_sum_Of ps_sum_Of (u0, ()) h := by kernel_rfl
noncomputable def s_sum_Of (n : Nat) : Sf1 := mkSf ps_sum_Of rs_sum_Of fun a h => f_sum_Of n a.1 h

/- wicket/super.Config -/
def c2_super_Config : C2 :=
  .seq (.reg [(⟨(some 1), .box (.tmp 0), none⟩, .ptr),
      (⟨(some 2), .move (.const (.int .i64 0)), none⟩, (.int .i64))]) <|
  .seq (.block 0 <|
      .seq (.cutn [(3, .bool)] <|
          .seq (.reg [(⟨(some 4), .fieldAddr 0 (.tmp 1), none⟩, .ptr),
              (⟨(some 5), .load false 1 (.tmp 4), none⟩, (.int .i64)),
              (⟨(some 6), .call k_super_within [(.tmp 5), (.const (.int .i64 64))], none⟩, .bool),
              (⟨(some 7), .un .not (.tmp 6), none⟩, .bool),
              (⟨(some 3), .move (.tmp 7), none⟩, .bool)]) <|
          .cond (.tmp 3)
            (.skip)
            (.seq (.reg [(⟨(some 8), .fieldAddr 1 (.tmp 1), none⟩, .ptr),
                (⟨(some 9), .load false 1 (.tmp 8), none⟩, (.int .i64)),
                (⟨(some 10), .bin .sub (.tmp 9) (.const (.int .i64 1)), none⟩, (.int .i64)),
                (⟨(some 11), .call k_super_within [(.tmp 10), (.const (.int .i64 63))], none⟩, .bool),
                (⟨(some 12), .un .not (.tmp 11), none⟩, .bool),
                (⟨(some 3), .move (.tmp 12), none⟩, .bool)]) <|
            .cond (.tmp 3)
              (.skip)
              (.reg [(⟨(some 13), .fieldAddr 4 (.tmp 1), none⟩, .ptr),
                (⟨(some 14), .load false 1 (.tmp 13), none⟩, (.int .i64)),
                (⟨(some 15), .call k_super_within [(.tmp 14), (.const (.int .i64 8))], none⟩, .bool),
                (⟨(some 16), .un .not (.tmp 15), none⟩, .bool),
                (⟨(some 3), .move (.tmp 16), none⟩, .bool)]))) <|
      .cond (.tmp 3)
        (.seq (.reg [(⟨(some 2), .move (.const (.int .i64 3)), none⟩, (.int .i64))]) <|
        .ret)
        (.seq (.cutn [(17, .bool)] <|
            .seq (.reg [(⟨(some 18), .fieldAddr 2 (.tmp 1), none⟩, .ptr),
                (⟨(some 19), .load false 1 (.tmp 18), none⟩, (.int .i64)),
                (⟨(some 20), .fieldAddr 0 (.tmp 1), none⟩, .ptr),
                (⟨(some 21), .load false 1 (.tmp 20), none⟩, (.int .i64)),
                (⟨(some 22), .fieldAddr 1 (.tmp 1), none⟩, .ptr),
                (⟨(some 23), .load false 1 (.tmp 22), none⟩, (.int .i64)),
                (⟨(some 24), .bin .sub (.tmp 23) (.const (.int .i64 1)), none⟩, (.int .i64)),
                (⟨(some 25), .minmax false [(.const (.int .i64 16)), (.tmp 21), (.tmp 24)], none⟩, (.int .i64)),
                (⟨(some 26), .call k_super_within [(.tmp 19), (.tmp 25)], none⟩, .bool),
                (⟨(some 27), .un .not (.tmp 26), none⟩, .bool),
                (⟨(some 17), .move (.tmp 27), none⟩, .bool)]) <|
            .cond (.tmp 17)
              (.skip)
              (.reg [(⟨(some 28), .fieldAddr 3 (.tmp 1), none⟩, .ptr),
                (⟨(some 29), .load false 1 (.tmp 28), none⟩, (.int .i64)),
                (⟨(some 30), .fieldAddr 1 (.tmp 1), none⟩, .ptr),
                (⟨(some 31), .load false 1 (.tmp 30), none⟩, (.int .i64)),
                (⟨(some 32), .call k_super_within [(.tmp 29), (.tmp 31)], none⟩, .bool),
                (⟨(some 33), .un .not (.tmp 32), none⟩, .bool),
                (⟨(some 17), .move (.tmp 33), none⟩, .bool)])) <|
        .cond (.tmp 17)
          (.seq (.reg [(⟨(some 2), .move (.const (.int .i64 3)), none⟩, (.int .i64))]) <|
          .ret)
          (.skip))) <|
  .seq (.reg [(⟨(some 2), .move (.const (.int .i64 0)), none⟩, (.int .i64))]) <|
  .ret
noncomputable def sf_super_Config (n : Nat) : Sf := sfOf [(k_super_within, s_super_within n)]
noncomputable def it_super_Config (n : Nat) : It := itOf []
def f_super_Config (n : Nat) (u0 : Value) (h : Heap) : Option ((Int × Unit) × Heap) :=
  bif (cellsOf u0).all isCell then
    (bnd ((Heap.new h (.cells (cellsOf u0) false 0))) fun h0 =>
    (((ldT (.int .i64) h0 (some (fa (nwA h) 0))).bind fun x1 =>
      (f_super_within n x1 64 h0).bind fun p2 =>
      bif (!p2.1.1) then
        (some (((!p2.1.1), ()), p2.2))
      else
        ((ldT (.int .i64) p2.2 (some (fa (nwA h) 1))).bind fun x3 =>
        (f_super_within n (IntKind.i64.wrap (x3 - 1)) 63 p2.2).bind fun p4 =>
        bif (!p4.1.1) then
          (some (((!p4.1.1), ()), p4.2))
        else
          ((ldT (.int .i64) p4.2 (some (fa (nwA h) 4))).bind fun x5 =>
          (f_super_within n x5 8 p4.2).bind fun p6 =>
          some (((!p6.1.1), ()), p6.2)))) : Option ((Bool × Unit) × Heap)).bind fun a7 =>
    bif a7.1.1 then
      (some ((3, ()), a7.2))
    else
      ((((ldT (.int .i64) a7.2 (some (fa (nwA h) 2))).bind fun x8 =>
        (ldT (.int .i64) a7.2 (some (fa (nwA h) 0))).bind fun x9 =>
        (ldT (.int .i64) a7.2 (some (fa (nwA h) 1))).bind fun x10 =>
        (f_super_within n x8 (if (IntKind.i64.wrap (x10 - 1)) < (if x9 < 16 then x9 else 16) then (IntKind.i64.wrap (x10 - 1)) else (if x9 < 16 then x9 else 16)) a7.2).bind fun p11 =>
        bif (!p11.1.1) then
          (some (((!p11.1.1), ()), p11.2))
        else
          ((ldT (.int .i64) p11.2 (some (fa (nwA h) 3))).bind fun x12 =>
          (ldT (.int .i64) p11.2 (some (fa (nwA h) 1))).bind fun x13 =>
          (f_super_within n x12 x13 p11.2).bind fun p14 =>
          some (((!p14.1.1), ()), p14.2))) : Option ((Bool × Unit) × Heap)).bind fun a15 =>
      bif a15.1.1 then
        (some ((3, ()), a15.2))
      else
        (some ((0, ()), a15.2))))
  else
    (none)
def rs_super_Config : Rs := [(.tmp 2, (.int .i64))]
def ps_super_Config : List Ty := [.any]
theorem e_super_Config (n : Nat) (u0 : Value) (h : Heap) : f_super_Config n u0 h = fB (sf_super_Config n) (it_super_Config n) n c2_super_Config rs_super_Config ps_super_Config (u0, ()) h := by kernel_rfl
noncomputable def s_super_Config (n : Nat) : Sf1 := mkSf ps_super_Config rs_super_Config fun a h => f_super_Config n a.1 h

/- slices.Backward[[]wicket/sector.waiting,wicket/sector.waiting] -/
def c2_slices_Backward_sector_waiting_sector_waiting : C2 :=
  .seq (.reg [(⟨(some 1), .box (.tmp 0), none⟩, .ptr),
      (⟨(some 2), .move (.const .nilFunc), none⟩, (.fn k_slices_Backward_sector_waiting_sector_waiting_1 1))]) <|
  .seq (.reg [(⟨(some 3), .makeFunc k_slices_Backward_sector_waiting_sector_waiting_1 [] [(.tmp 1)], none⟩, (.fn k_slices_Backward_sector_waiting_sector_waiting_1 1)),
      (⟨(some 2), .move (.tmp 3), none⟩, (.fn k_slices_Backward_sector_waiting_sector_waiting_1 1))]) <|
  .ret
noncomputable def sf_slices_Backward_sector_waiting_sector_waiting (n : Nat) : Sf := sfOf []
noncomputable def it_slices_Backward_sector_waiting_sector_waiting (n : Nat) : It := itOf []
def f_slices_Backward_sector_waiting_sector_waiting (n : Nat) (u0 : Value) (h : Heap) : Option ((Ptrs 1 × Unit) × Heap) :=
  bif (cellsOf u0).all isCell then
    (bnd ((Heap.new h (.cells (cellsOf u0) false 0))) fun h0 =>
    some ((((some (nwA h)), ()), ()), h0))
  else
    (none)
def rs_slices_Backward_sector_waiting_sector_waiting : Rs := [(.tmp 2, (.fn k_slices_Backward_sector_waiting_sector_waiting_1 1))]
def ps_slices_Backward_sector_waiting_sector_waiting : List Ty := [.any]
theorem e_slices_Backward_sector_waiting_sector_waiting (n : Nat) (u0 : Value) (h : Heap) : f_slices_Backward_sector_waiting_sector_waiting n u0 h = fB (sf_slices_Backward_sector_waiting_sector_waiting n) (it_slices_Backward_sector_waiting_sector_waiting n) n c2_slices_Backward_sector_waiting_sector_waiting rs_slices_Backward_sector_waiting_sector_waiting ps_slices_Backward_sector_waiting_sector_waiting (u0, ()) h := by kernel_rfl
noncomputable def s_slices_Backward_sector_waiting_sector_waiting (n : Nat) : Sf1 := mkSf ps_slices_Backward_sector_waiting_sector_waiting rs_slices_Backward_sector_waiting_sector_waiting fun a h => f_slices_Backward_sector_waiting_sector_waiting n a.1 h

/- wicket/home.Encode -/
def c2_home_Encode : C2 :=
  .seq (.reg [(⟨(some 3), .box (.tmp 1), none⟩, .ptr),
      (⟨(some 4), .move (.const (.slice none 0 0)), none⟩, .any),
      (⟨(some 5), .move (.const (.int .i64 0)), none⟩, (.int .i64))]) <|
  .seq (.seq (.reg [(⟨(some 9), .move (.tmp 0), none⟩, (.int .i64)),
        (⟨(some 10), .call k_home_block [(.tmp 9)], none⟩, .bool),
        (⟨(some 11), .un .not (.tmp 10), none⟩, .bool)]) <|
    .cond (.tmp 11)
      (.seq (.reg [(⟨(some 4), .move (.const (.slice none 0 0)), none⟩, .any),
          (⟨(some 5), .move (.const (.int .i64 51)), none⟩, (.int .i64))]) <|
      .ret)
      (.skip)) <|
  .seq (.reg [(⟨(some 12), .buildSlice 4 1 (List.replicate 4 (.int .u8 0)) [(0, 1, (.const (.int .u8 72))), (1, 1, (.const (.int .u8 79))), (2, 1, (.const (.int .u8 77))), (3, 1, (.const (.int .u8 69)))], none⟩, .any),
      (⟨(some 13), .markS (.tmp 12), none⟩, .any),
      (⟨(some 14), .move (.tmp 0), none⟩, (.int .i64)),
      (⟨(some 15), .conv .u8 (.tmp 14), none⟩, (.int .u8)),
      (⟨(some 16), .buildSlice 2 1 [(.int .u8 0), (.int .u8 0)] [(0, 1, (.const (.int .u8 1))), (1, 1, (.tmp 15))], none⟩, .any),
      (⟨(some 17), .buildSlice 2 1 [(.slice none 0 0), (.slice none 0 0)] [(0, 1, (.tmp 13)), (1, 1, (.tmp 16))], none⟩, .any),
      (⟨(some 18), .call k_octet_Join [(.tmp 17)], none⟩, .any),
      (⟨(some 6), .move (.tmp 18), none⟩, .any)]) <|
  .seq (.regd [(⟨0, [], false, ⟨(some 19), .move (.tmp 6), none⟩⟩, .any),
      (⟨1, [], false, ⟨(some 20), .move (.tmp 6), none⟩⟩, .any),
      (⟨2, [1], false, ⟨(some 21), .lenS (.tmp 20), none⟩⟩, (.int .i64)),
      (⟨3, [2, 1], false, ⟨(some 22), .bin .sub (.const (.int .i64 28)) (.tmp 21), none⟩⟩, (.int .i64)),
      (⟨4, [3, 2, 1], false, ⟨(some 23), .makeSlice 1 1 [(.int .u8 0)] (.tmp 22) (.tmp 22), none⟩⟩, .any),
      (⟨5, [], false, ⟨(some 24), .sliceArr 32 1 (.tmp 3) none none none, none⟩⟩, .any),
      (⟨6, [0, 4, 5, 3, 2, 1], false, ⟨(some 25), .buildSlice 3 1 [(.slice none 0 0), (.slice none 0 0), (.slice none 0 0)] [(0, 1, (.tmp 19)), (1, 1, (.tmp 23)), (2, 1, (.tmp 24))], none⟩⟩, .any),
      (⟨7, [6, 0, 4, 5, 3, 2, 1], true, ⟨(some 26), .call k_octet_Join [(.tmp 25)], none⟩⟩, .any),
      (⟨8, [7, 0, 1, 2, 3, 4, 5, 6], true, ⟨(some 6), .move (.tmp 26), none⟩⟩, .any)]) <|
  .seq (.reg [(⟨(some 28), .move (.tmp 6), none⟩, .any),
      (⟨(some 29), .buildSlice 1 1 [(.slice none 0 0)] [(0, 1, (.tmp 28))], none⟩, .any),
      (⟨(some 30), .call k_sum_Of [(.tmp 29)], none⟩, (.int .u32)),
      (⟨(some 31), .conv .u64 (.tmp 30), none⟩, (.int .u64)),
      (⟨(some 32), .call k_octet_Put [(.tmp 31), (.const (.int .i64 4))], none⟩, .any),
      (⟨(some 27), .move (.tmp 32), none⟩, .any),
      (⟨(some 33), .extract (.tmp 27) 0, none⟩, .any),
      (⟨(some 34), .extract (.tmp 27) 1, none⟩, (.int .i64)),
      (⟨(some 7), .move (.tmp 33), none⟩, .any),
      (⟨(some 8), .move (.tmp 34), none⟩, (.int .i64))]) <|
  .seq (.reg [(⟨(some 35), .move (.tmp 6), none⟩, .any),
      (⟨(some 36), .move (.tmp 7), none⟩, .any),
      (⟨(some 37), .buildSlice 2 1 [(.slice none 0 0), (.slice none 0 0)] [(0, 1, (.tmp 35)), (1, 1, (.tmp 36))], none⟩, .any),
      (⟨(some 38), .call k_octet_Join [(.tmp 37)], none⟩, .any),
      (⟨(some 39), .move (.tmp 8), none⟩, (.int .i64)),
      (⟨(some 4), .move (.tmp 38), none⟩, .any),
      (⟨(some 5), .move (.tmp 39), none⟩, (.int .i64))]) <|
  .ret
noncomputable def sf_home_Encode (n : Nat) : Sf := sfOf [(k_home_block, s_home_block n), (k_octet_Join, s_octet_Join n), (k_sum_Of, s_sum_Of n), (k_octet_Put, s_octet_Put n)]
noncomputable def it_home_Encode (n : Nat) : It := itOf []
def f_home_Encode (n : Nat) (u0 : Int) (u1 : Value) (h : Heap) : Option ((Value × Int × Unit) × Heap) :=
  bif (cellsOf u1).all isCell then
    (bnd ((Heap.new h (.cells (cellsOf u1) false 0))) fun h0 =>
    (f_home_block n u0 h0).bind fun p1 =>
    bif (!p1.1.1) then
      (some (((.slice none 0 0), (51, ())), p1.2))
    else
      ((fillL (List.replicate 4 (.int .u8 0)) [(0, 1, (.int .u8 72)), (1, 1, (.int .u8 79)), (2, 1, (.int .u8 77)), (3, 1, (.int .u8 69))]).bind fun cs2 =>
      bnd ((Heap.new p1.2 (.cells cs2 false 1))) fun h3 =>
      (markSK h3 (.slice (some ⟨Heap.next p1.2, 0, some 0⟩) 4 4)).bind fun p4 =>
      (fillL [(.int .u8 0), (.int .u8 0)] [(0, 1, (.int .u8 1)), (1, 1, (.int .u8 (IntKind.u8.wrap (u0))))]).bind fun cs5 =>
      bnd ((Heap.new p4.2 (.cells cs5 false 1))) fun h6 =>
      (fillL [(.slice none 0 0), (.slice none 0 0)] [(0, 1, p4.1), (1, 1, (.slice (some ⟨Heap.next p4.2, 0, some 0⟩) 2 2))]).bind fun cs7 =>
      bnd ((Heap.new h6 (.cells cs7 false 1))) fun h8 =>
      (f_octet_Join n (.slice (some ⟨Heap.next h6, 0, some 0⟩) 2 2) h8).bind fun p9 =>
      (lenB p9.1.1).bind fun n10 =>
      (mkSl (Heap.next p9.2) 1 1 [(.int .u8 0)] (.int .i64 (IntKind.i64.wrap (28 - (n10 : Int)))) (.int .i64 (IntKind.i64.wrap (28 - (n10 : Int))))).bind fun p11 =>
      bnd ((Heap.new p9.2 (p11.2))) fun h12 =>
      (sliceArrK (Heap.dropAll h12 ((Heap.next p9.2) :: [])) 32 1 none none (.pointer (some (nwA h)))).bind fun p13 =>
      (fillL [(.slice none 0 0), (.slice none 0 0), (.slice none 0 0)] [(0, 1, p9.1.1), (1, 1, p11.1), (2, 1, p13.1)]).bind fun cs14 =>
      bnd ((Heap.new h12 (.cells cs14 false 1))) fun h15 =>
      (f_octet_Join n (.slice (some ⟨Heap.next h12, 0, some 0⟩) 3 3) h15).bind fun p16 =>
      (fillL [(.slice none 0 0)] [(0, 1, p16.1.1)]).bind fun cs17 =>
      bnd ((Heap.new p16.2 (.cells cs17 false 1))) fun h18 =>
      (f_sum_Of n (.slice (some ⟨Heap.next p16.2, 0, some 0⟩) 1 1) h18).bind fun p19 =>
      (f_octet_Put n (IntKind.u64.wrap (p19.1.1)) 4 p19.2).bind fun p20 =>
      (fillL [(.slice none 0 0), (.slice none 0 0)] [(0, 1, p16.1.1), (1, 1, p20.1.1)]).bind fun cs21 =>
      bnd ((Heap.new p20.2 (.cells cs21 false 1))) fun h22 =>
      (f_octet_Join n (.slice (some ⟨Heap.next p20.2, 0, some 0⟩) 2 2) h22).bind fun p23 =>
      bif !isTuple p23.1.1 then
        (some ((p23.1.1, (p20.1.2.1, ())), p23.2))
      else
        (none)))
  else
    (none)
def rs_home_Encode : Rs := [(.tmp 4, .any), (.tmp 5, (.int .i64))]
def ps_home_Encode : List Ty := [(.int .i64), .any]
theorem e_home_Encode (n : Nat) (u0 : Int) (u1 : Value) (h : Heap) : f_home_Encode n u0 u1 h = fB (sf_home_Encode n) (it_home_Encode n) n c2_home_Encode rs_home_Encode ps_home_Encode (u0, (u1, ())) h := by kernel_rfl
noncomputable def s_home_Encode (n : Nat) : Sf1 := mkSf ps_home_Encode rs_home_Encode fun a h => f_home_Encode n a.1 a.2.1 h

/- wicket/home.Decode -/
def c2_home_Decode : C2 :=
  .seq (.reg [(⟨(some 4), .alloc (List.replicate 32 (.int .u8 0)), none⟩, .ptr),
      (⟨(some 5), .move (.const (.int .i64 0)), none⟩, (.int .i64))]) <|
  .seq (.block 0 <|
      .seq (.reg [(⟨(some 10), .move (.tmp 1), none⟩, (.int .i64)),
          (⟨(some 11), .call k_home_block [(.tmp 10)], none⟩, .bool),
          (⟨(some 12), .un .not (.tmp 11), none⟩, .bool),
          (⟨(some 9), .move (.tmp 12), none⟩, .bool)]) <|
      .cond (.tmp 9)
        (.seq (.reg [(⟨(some 13), .build (List.replicate 32 (.int .u8 0)) [], none⟩, .any),
            (⟨none, .store 32 (.tmp 4) (.tmp 13), none⟩, .any),
            (⟨(some 5), .move (.const (.int .i64 51)), none⟩, (.int .i64))]) <|
        .ret)
        (.seq (.reg [(⟨(some 15), .move (.tmp 0), none⟩, .any),
            (⟨(some 16), .lenS (.tmp 15), none⟩, (.int .i64)),
            (⟨(some 17), .bin .neq (.tmp 16) (.const (.int .i64 64)), none⟩, .bool),
            (⟨(some 14), .move (.tmp 17), none⟩, .bool)]) <|
        .cond (.tmp 14)
          (.seq (.reg [(⟨(some 18), .build (List.replicate 32 (.int .u8 0)) [], none⟩, .any),
              (⟨none, .store 32 (.tmp 4) (.tmp 18), none⟩, .any),
              (⟨(some 5), .move (.const (.int .i64 2)), none⟩, (.int .i64))]) <|
          .ret)
          (.skip))) <|
  .seq (.reg [(⟨(some 19), .move (.tmp 0), none⟩, .any),
      (⟨(some 20), .slice 1 (.tmp 19) (some (.const (.int .i64 28))) (some (.const (.int .i64 60))) none, none⟩, .any),
      (⟨(some 21), .arrAt 32 (.tmp 20), none⟩, .ptr),
      (⟨(some 22), .load true 32 (.tmp 21), none⟩, .any),
      (⟨(some 6), .alloc (List.replicate 32 (.int .u8 0)), none⟩, .ptr),
      (⟨none, .store 32 (.tmp 6) (.tmp 22), none⟩, .any)]) <|
  .seq (.reg [(⟨(some 24), .move (.tmp 1), none⟩, (.int .i64)),
      (⟨(some 25), .load true 32 (.tmp 6), none⟩, .any),
      (⟨(some 26), .call k_home_Encode [(.tmp 24), (.tmp 25)], none⟩, .any),
      (⟨(some 23), .move (.tmp 26), none⟩, .any),
      (⟨(some 27), .extract (.tmp 23) 0, none⟩, .any),
      (⟨(some 28), .extract (.tmp 23) 1, none⟩, (.int .i64)),
      (⟨(some 7), .move (.tmp 27), none⟩, .any),
      (⟨(some 8), .move (.tmp 28), none⟩, (.int .i64))]) <|
  .seq (.seq (.cutn [(39, .bool)] <|
        .regd [(⟨0, [], false, ⟨(some 29), .move (.tmp 8), none⟩⟩, (.int .i64)),
          (⟨1, [0], false, ⟨(some 30), .bin .neq (.tmp 29) (.const (.int .i64 0)), none⟩⟩, .bool),
          (⟨2, [1, 0], false, ⟨(some 31), .move (.tmp 30), none⟩⟩, .bool),
          (⟨3, [2, 1, 0], false, ⟨(some 32), .move (.tmp 7), some (31, false)⟩⟩, .any),
          (⟨4, [3, 2, 1, 0], false, ⟨(some 33), .arrAt 64 (.tmp 32), some (31, false)⟩⟩, .ptr),
          (⟨5, [4, 2, 3, 1, 0], false, ⟨(some 34), .load true 64 (.tmp 33), some (31, false)⟩⟩, .any),
          (⟨6, [2, 1, 0], false, ⟨(some 35), .move (.tmp 0), some (31, false)⟩⟩, .any),
          (⟨7, [6, 2, 1, 0], false, ⟨(some 36), .arrAt 64 (.tmp 35), some (31, false)⟩⟩, .ptr),
          (⟨8, [7, 2, 6, 1, 0], false, ⟨(some 37), .load true 64 (.tmp 36), some (31, false)⟩⟩, .any),
          (⟨9, [5, 8, 2, 4, 3, 1, 0, 7, 6], false, ⟨(some 38), .eqv true (.agg (List.replicate 64 false)) (.tmp 34) (.tmp 37), some (31, false)⟩⟩, .bool),
          (⟨10, [2, 9, 1, 0, 5, 8, 4, 3, 7, 6], false, ⟨(some 39), .pick (.tmp 31) (.const (.bool true)) (.tmp 38), none⟩⟩, .bool)]) <|
    .cond (.tmp 39)
      (.seq (.reg [(⟨(some 40), .build (List.replicate 32 (.int .u8 0)) [], none⟩, .any),
          (⟨none, .store 32 (.tmp 4) (.tmp 40), none⟩, .any),
          (⟨(some 5), .move (.const (.int .i64 80)), none⟩, (.int .i64))]) <|
      .ret)
      (.skip)) <|
  .seq (.reg [(⟨(some 41), .load true 32 (.tmp 6), none⟩, .any),
      (⟨none, .store 32 (.tmp 4) (.tmp 41), none⟩, .any),
      (⟨(some 5), .move (.const (.int .i64 0)), none⟩, (.int .i64))]) <|
  .ret
noncomputable def sf_home_Decode (n : Nat) : Sf := sfOf [(k_home_block, s_home_block n), (k_home_Encode, s_home_Encode n)]
noncomputable def it_home_Decode (n : Nat) : It := itOf []
def f_home_Decode (n : Nat) (u0 : Value) (u1 : Int) (h : Heap) : Option ((Value × Int × Unit) × Heap) :=
  bnd ((Heap.new h (.cells (List.replicate 32 (.int .u8 0)) false 0))) fun h0 =>
  (f_home_block n u1 h0).bind fun p1 =>
  bif (!p1.1.1) then
    ((fillL (List.replicate 32 (.int .u8 0)) []).bind fun cs2 =>
    (stB 32 (.agg ⟨cs2⟩) p1.2 (some (nwA h))).bind fun h3 =>
    (ldA 32 h3 (some (nwA h))).bind fun cs4 =>
    some (((.agg ⟨cs4⟩), (51, ())), h3))
  else
    ((lenB u0).bind fun n5 =>
    bif (!decide ((n5 : Int) = 64)) then
      ((fillL (List.replicate 32 (.int .u8 0)) []).bind fun cs6 =>
      (stB 32 (.agg ⟨cs6⟩) p1.2 (some (nwA h))).bind fun h7 =>
      (ldA 32 h7 (some (nwA h))).bind fun cs8 =>
      some (((.agg ⟨cs8⟩), (2, ())), h7))
    else
      ((sliceK p1.2 1 (some (.int .i64 28)) (some (.int .i64 60)) none u0).bind fun p9 =>
      (arrB p1.2 32 p9.1).bind fun q10 =>
      (ldA 32 p1.2 q10).bind fun cs11 =>
      bnd ((Heap.new p1.2 (.cells (List.replicate 32 (.int .u8 0)) false 0))) fun h12 =>
      (stB 32 (.agg ⟨cs11⟩) h12 (some (nwA p1.2))).bind fun h13 =>
      (ldA 32 h13 (some (nwA p1.2))).bind fun cs14 =>
      (f_home_Encode n u1 (.agg ⟨cs14⟩) h13).bind fun p15 =>
      ((bif (!decide (p15.1.2.1 = 0)) then
          (some ((true, ()), p15.2))
        else
          ((arrB p15.2 64 p15.1.1).bind fun q16 =>
          (ldA 64 p15.2 q16).bind fun cs17 =>
          (arrB p15.2 64 u0).bind fun q18 =>
          (ldA 64 p15.2 q18).bind fun cs19 =>
          (eqVals p15.2 (.agg (List.replicate 64 false)) (.agg ⟨cs17⟩) (.agg ⟨cs19⟩)).bind fun b20 =>
          some (((!b20), ()), p15.2))) : Option ((Bool × Unit) × Heap)).bind fun a21 =>
      bif a21.1.1 then
        ((fillL (List.replicate 32 (.int .u8 0)) []).bind fun cs22 =>
        (stB 32 (.agg ⟨cs22⟩) a21.2 (some (nwA h))).bind fun h23 =>
        (ldA 32 h23 (some (nwA h))).bind fun cs24 =>
        some (((.agg ⟨cs24⟩), (80, ())), h23))
      else
        ((ldA 32 a21.2 (some (nwA p1.2))).bind fun cs25 =>
        (stB 32 (.agg ⟨cs25⟩) a21.2 (some (nwA h))).bind fun h26 =>
        (ldA 32 h26 (some (nwA h))).bind fun cs27 =>
        some (((.agg ⟨cs27⟩), (0, ())), h26))))
def rs_home_Decode : Rs := [(.cell true 32 4, .any), (.tmp 5, (.int .i64))]
def ps_home_Decode : List Ty := [.any, (.int .i64)]
theorem e_home_Decode (n : Nat) (u0 : Value) (u1 : Int) (h : Heap) : f_home_Decode n u0 u1 h = fB (sf_home_Decode n) (it_home_Decode n) n c2_home_Decode rs_home_Decode ps_home_Decode (u0, (u1, ())) h := by kernel_rfl
noncomputable def s_home_Decode (n : Nat) : Sf1 := mkSf ps_home_Decode rs_home_Decode fun a h => f_home_Decode n a.1 a.2.1 h

/- wicket/home.fits -/
def c2_home_fits : C2 :=
  .seq (.reg [(⟨(some 3), .box (.tmp 1), none⟩, .ptr),
      (⟨(some 4), .move (.const (.int .i64 0)), none⟩, (.int .i64))]) <|
  .seq (.seq (.reg [(⟨(some 6), .move (.tmp 0), none⟩, .ptr),
        (⟨(some 7), .eqv false .ptr (.tmp 6) (.const (.pointer none)), none⟩, .bool)]) <|
    .cond (.tmp 7)
      (.seq (.reg [(⟨(some 4), .move (.const (.int .i64 1)), none⟩, (.int .i64))]) <|
      .ret)
      (.skip)) <|
  .seq (.seq (.reg [(⟨(some 8), .load true 5 (.tmp 3), none⟩, .any),
        (⟨(some 9), .call k_super_Config [(.tmp 8)], none⟩, (.int .i64)),
        (⟨(some 5), .move (.tmp 9), none⟩, (.int .i64))]) <|
    .seq (.reg [(⟨(some 10), .move (.tmp 5), none⟩, (.int .i64)),
        (⟨(some 11), .bin .neq (.tmp 10) (.const (.int .i64 0)), none⟩, .bool)]) <|
    .cond (.tmp 11)
      (.seq (.reg [(⟨(some 12), .move (.tmp 5), none⟩, (.int .i64)),
          (⟨(some 4), .move (.tmp 12), none⟩, (.int .i64))]) <|
      .ret)
      (.skip)) <|
  .seq (.seq (.regd [(⟨0, [], false, ⟨(some 13), .move (.tmp 0), none⟩⟩, .ptr),
        (⟨2, [], false, ⟨(some 15), .fieldAddr 0 (.tmp 3), none⟩⟩, .ptr),
        (⟨3, [2], false, ⟨(some 16), .load false 1 (.tmp 15), none⟩⟩, (.int .i64)),
        (⟨4, [3, 2], false, ⟨(some 17), .bin .add (.const (.int .i64 1)) (.tmp 16), none⟩⟩, (.int .i64)),
        (⟨5, [], false, ⟨(some 18), .fieldAddr 1 (.tmp 3), none⟩⟩, .ptr),
        (⟨6, [5], false, ⟨(some 19), .load false 1 (.tmp 18), none⟩⟩, (.int .i64)),
        (⟨7, [4, 6, 3, 2, 5], false, ⟨(some 20), .bin .add (.tmp 17) (.tmp 19), none⟩⟩, (.int .i64)),
        (⟨1, [0], true, ⟨(some 14), .call k_sector_Disk_Len [(.tmp 13)], none⟩⟩, (.int .i64)),
        (⟨8, [1, 7, 0, 4, 6, 3, 2, 5], false, ⟨(some 21), .bin .neq (.tmp 14) (.tmp 20), none⟩⟩, .bool)]) <|
    .cond (.tmp 21)
      (.seq (.reg [(⟨(some 4), .move (.const (.int .i64 40)), none⟩, (.int .i64))]) <|
      .ret)
      (.skip)) <|
  .seq (.reg [(⟨(some 4), .move (.const (.int .i64 0)), none⟩, (.int .i64))]) <|
  .ret
noncomputable def sf_home_fits (n : Nat) : Sf := sfOf [(k_super_Config, s_super_Config n), (k_sector_Disk_Len, s_sector_Disk_Len n)]
noncomputable def it_home_fits (n : Nat) : It := itOf []
def f_home_fits (n : Nat) (u0 : Option Addr) (u1 : Value) (h : Heap) : Option ((Int × Unit) × Heap) :=
  bif (cellsOf u1).all isCell then
    (bnd ((Heap.new h (.cells (cellsOf u1) false 0))) fun h0 =>
    bif (Option.isNone u0) then
      (some ((1, ()), h0))
    else
      ((ldA 5 h0 (some (nwA h))).bind fun cs1 =>
      (f_super_Config n (.agg ⟨cs1⟩) h0).bind fun p2 =>
      bif (!decide (p2.1.1 = 0)) then
        (some ((p2.1.1, ()), p2.2))
      else
        ((ldT (.int .i64) p2.2 (some (fa (nwA h) 0))).bind fun x3 =>
        (ldT (.int .i64) p2.2 (some (fa (nwA h) 1))).bind fun x4 =>
        (f_sector_Disk_Len n u0 (hid p2.2 [] ((Addr.block (fa (nwA h) 1)) :: ((Addr.block (fa (nwA h) 0)) :: [])))).bind fun p5 =>
        bnd (Heap.putBack p5.2 p2.2 ([] ++ ((Addr.block (fa (nwA h) 1)) :: ((Addr.block (fa (nwA h) 0)) :: [])))) fun h6 =>
        bif (!decide (p5.1.1 = (IntKind.i64.wrap ((IntKind.i64.wrap (1 + x3)) + x4)))) then
          (some ((40, ()), h6))
        else
          (some ((0, ()), h6)))))
  else
    (none)
def rs_home_fits : Rs := [(.tmp 4, (.int .i64))]
def ps_home_fits : List Ty := [.ptr, .any]
theorem e_home_fits (n : Nat) (u0 : Option Addr) (u1 : Value) (h : Heap) : f_home_fits n u0 u1 h = fB (sf_home_fits n) (it_home_fits n) n c2_home_fits rs_home_fits ps_home_fits (u0, (u1, ())) h := by kernel_rfl
noncomputable def s_home_fits (n : Nat) : Sf1 := mkSf ps_home_fits rs_home_fits fun a h => f_home_fits n a.1 a.2.1 h

/- wicket/super.Check -/
def c2_super_Check : C2 :=
  .seq (.reg [(⟨(some 1), .box (.tmp 0), none⟩, .ptr),
      (⟨(some 2), .move (.const (.int .i64 0)), none⟩, (.int .i64))]) <|
  .seq (.seq (.reg [(⟨(some 4), .fieldAddr 0 (.tmp 1), none⟩, .ptr),
        (⟨(some 5), .load true 5 (.tmp 4), none⟩, .any),
        (⟨(some 6), .call k_super_Config [(.tmp 5)], none⟩, (.int .i64)),
        (⟨(some 3), .move (.tmp 6), none⟩, (.int .i64))]) <|
    .seq (.reg [(⟨(some 7), .move (.tmp 3), none⟩, (.int .i64)),
        (⟨(some 8), .bin .neq (.tmp 7) (.const (.int .i64 0)), none⟩, .bool)]) <|
    .cond (.tmp 8)
      (.seq (.reg [(⟨(some 9), .move (.tmp 3), none⟩, (.int .i64)),
          (⟨(some 2), .move (.tmp 9), none⟩, (.int .i64))]) <|
      .ret)
      (.skip)) <|
  .seq (.seq (.cutn [(22, .bool)] <|
        .reg [(⟨(some 10), .fieldAddr 5 (.tmp 1), none⟩, .ptr),
          (⟨(some 11), .load false 1 (.tmp 10), none⟩, (.int .u64)),
          (⟨(some 12), .bin .gtr (.tmp 11) (.const (.int .u64 4611686018427387904)), none⟩, .bool),
          (⟨(some 13), .move (.tmp 12), none⟩, .bool),
          (⟨(some 14), .fieldAddr 6 (.tmp 1), some (13, false)⟩, .ptr),
          (⟨(some 15), .load false 1 (.tmp 14), some (13, false)⟩, (.int .u64)),
          (⟨(some 16), .bin .lss (.tmp 15) (.const (.int .u64 1)), some (13, false)⟩, .bool),
          (⟨(some 17), .pick (.tmp 13) (.const (.bool true)) (.tmp 16), none⟩, .bool),
          (⟨(some 18), .move (.tmp 17), none⟩, .bool),
          (⟨(some 19), .fieldAddr 6 (.tmp 1), some (18, false)⟩, .ptr),
          (⟨(some 20), .load false 1 (.tmp 19), some (18, false)⟩, (.int .u64)),
          (⟨(some 21), .bin .gtr (.tmp 20) (.const (.int .u64 4611686018427387904)), some (18, false)⟩, .bool),
          (⟨(some 22), .pick (.tmp 18) (.const (.bool true)) (.tmp 21), none⟩, .bool)]) <|
    .cond (.tmp 22)
      (.seq (.reg [(⟨(some 2), .move (.const (.int .i64 70)), none⟩, (.int .i64))]) <|
      .ret)
      (.skip)) <|
  .seq (.reg [(⟨(some 2), .move (.const (.int .i64 0)), none⟩, (.int .i64))]) <|
  .ret
noncomputable def sf_super_Check (n : Nat) : Sf := sfOf [(k_super_Config, s_super_Config n)]
noncomputable def it_super_Check (n : Nat) : It := itOf []
def f_super_Check (n : Nat) (u0 : Value) (h : Heap) : Option ((Int × Unit) × Heap) :=
  bif (cellsOf u0).all isCell then
    (bnd ((Heap.new h (.cells (cellsOf u0) false 0))) fun h0 =>
    (ldA 5 h0 (some (fa (nwA h) 0))).bind fun cs1 =>
    (f_super_Config n (.agg ⟨cs1⟩) h0).bind fun p2 =>
    bif (!decide (p2.1.1 = 0)) then
      (some ((p2.1.1, ()), p2.2))
    else
      ((((ldT (.int .u64) p2.2 (some (fa (nwA h) 5))).bind fun x3 =>
        bif (decide (4611686018427387904 < x3)) then
          (some ((true, ()), p2.2))
        else
          ((ldT (.int .u64) p2.2 (some (fa (nwA h) 6))).bind fun x4 =>
          bif (decide (x4 < 1)) then
            (some ((true, ()), p2.2))
          else
            ((ldT (.int .u64) p2.2 (some (fa (nwA h) 6))).bind fun x5 =>
            some (((decide (4611686018427387904 < x5)), ()), p2.2)))) : Option ((Bool × Unit) × Heap)).bind fun a6 =>
      bif a6.1.1 then
        (some ((70, ()), a6.2))
      else
        (some ((0, ()), a6.2))))
  else
    (none)
def rs_super_Check : Rs := [(.tmp 2, (.int .i64))]
def ps_super_Check : List Ty := [.any]
theorem e_super_Check (n : Nat) (u0 : Value) (h : Heap) : f_super_Check n u0 h = fB (sf_super_Check n) (it_super_Check n) n c2_super_Check rs_super_Check ps_super_Check (u0, ()) h := by kernel_rfl
noncomputable def s_super_Check (n : Nat) : Sf1 := mkSf ps_super_Check rs_super_Check fun a h => f_super_Check n a.1 h

/- (*wicket/sector.Disk).Read -/
def c2_sector_Disk_Read : C2 :=
  .seq (.reg [(⟨(some 3), .box (.tmp 1), none⟩, .ptr),
      (⟨(some 4), .alloc [(.slice none 0 0)], none⟩, .ptr),
      (⟨(some 5), .alloc [(.int .i64 0)], none⟩, .ptr)]) <|
  .seq (.seq (.reg [(⟨(some 9), .move (.tmp 0), none⟩, .ptr),
        (⟨(some 10), .load false 1 (.tmp 3), none⟩, (.int .i64)),
        (⟨(some 11), .call k_sector_Disk_asked [(.tmp 9), (.tmp 10)], none⟩, (.int .i64)),
        (⟨(some 6), .move (.tmp 11), none⟩, (.int .i64))]) <|
    .seq (.reg [(⟨(some 12), .move (.tmp 6), none⟩, (.int .i64)),
        (⟨(some 13), .bin .neq (.tmp 12) (.const (.int .i64 0)), none⟩, .bool)]) <|
    .cond (.tmp 13)
      (.seq (.reg [(⟨(some 14), .move (.tmp 6), none⟩, (.int .i64)),
          (⟨none, .store 1 (.tmp 4) (.const (.slice none 0 0)), none⟩, .any),
          (⟨none, .store 1 (.tmp 5) (.tmp 14), none⟩, .any)]) <|
      .ret)
      (.skip)) <|
  .seq (.seq (.reg [(⟨(some 15), .move (.tmp 0), none⟩, .ptr),
        (⟨(some 16), .nilCheck (.tmp 15), none⟩, .ptr),
        (⟨(some 17), .fieldAddr 1 (.tmp 16), none⟩, .ptr),
        (⟨(some 18), .load false 1 (.tmp 17), none⟩, .any),
        (⟨(some 19), .call k_slices_Backward_sector_waiting_sector_waiting [(.tmp 18)], none⟩, (.fn k_slices_Backward_sector_waiting_sector_waiting_1 1))]) <|
    .block 0 <|
      .range (.tmp 19) [20, 21] [.ret]
        (.reg [(⟨(some 8), .alloc [(.int .i64 0), (.int .u8 0), (.int .u8 0), (.int .u8 0), (.int .u8 0), (.int .u8 0), (.int .u8 0), (.int .u8 0), (.int .u8 0), (.int .u8 0), (.int .u8 0), (.int .u8 0), (.int .u8 0), (.int .u8 0), (.int .u8 0), (.int .u8 0), (.int .u8 0), (.int .u8 0), (.int .u8 0), (.int .u8 0), (.int .u8 0), (.int .u8 0), (.int .u8 0), (.int .u8 0), (.int .u8 0), (.int .u8 0), (.int .u8 0), (.int .u8 0), (.int .u8 0), (.int .u8 0), (.int .u8 0), (.int .u8 0), (.int .u8 0), (.int .u8 0), (.int .u8 0), (.int .u8 0), (.int .u8 0), (.int .u8 0), (.int .u8 0), (.int .u8 0), (.int .u8 0), (.int .u8 0), (.int .u8 0), (.int .u8 0), (.int .u8 0), (.int .u8 0), (.int .u8 0), (.int .u8 0), (.int .u8 0), (.int .u8 0), (.int .u8 0), (.int .u8 0), (.int .u8 0), (.int .u8 0), (.int .u8 0), (.int .u8 0), (.int .u8 0), (.int .u8 0), (.int .u8 0), (.int .u8 0), (.int .u8 0), (.int .u8 0), (.int .u8 0), (.int .u8 0), (.int .u8 0)], none⟩, .ptr),
          (⟨none, .store 65 (.tmp 8) (.tmp 21), none⟩, .any)])
        (.block 1 <|
          .seq (.reg [(⟨(some 22), .fieldAddr 0 (.tmp 8), none⟩, .ptr),
              (⟨(some 23), .load false 1 (.tmp 22), none⟩, (.int .i64)),
              (⟨(some 24), .load false 1 (.tmp 3), none⟩, (.int .i64)),
              (⟨(some 25), .bin .eql (.tmp 23) (.tmp 24), none⟩, .bool)]) <|
          .cond (.tmp 25)
            (.seq (.reg [(⟨(some 26), .fieldAddr 1 (.tmp 8), none⟩, .ptr),
                (⟨(some 27), .sliceArr 64 1 (.tmp 26) none none none, none⟩, .any),
                (⟨(some 28), .call k_slices_Clone_byte_byte [(.tmp 27)], none⟩, .any),
                (⟨none, .store 1 (.tmp 4) (.tmp 28), none⟩, .any),
                (⟨none, .store 1 (.tmp 5) (.const (.int .i64 0)), none⟩, .any)]) <|
            .ret)
            (.skip))) <|
  .seq (.regd [(⟨0, [], false, ⟨(some 29), .move (.tmp 0), none⟩⟩, .ptr),
      (⟨1, [0], false, ⟨(some 30), .nilCheck (.tmp 29), none⟩⟩, .ptr),
      (⟨2, [1, 0], false, ⟨(some 31), .fieldAddr 0 (.tmp 30), none⟩⟩, .ptr),
      (⟨3, [2, 1, 0], false, ⟨(some 32), .load false 1 (.tmp 31), none⟩⟩, .any),
      (⟨4, [], false, ⟨(some 33), .load false 1 (.tmp 3), none⟩⟩, (.int .i64)),
      (⟨5, [3, 4, 2, 1, 0], false, ⟨(some 34), .idxSlice 64 (.tmp 32) (.tmp 33), none⟩⟩, .ptr),
      (⟨6, [5, 3, 4, 2, 1, 0], false, ⟨(some 35), .sliceArr 64 1 (.tmp 34) none none none, none⟩⟩, .any),
      (⟨7, [6, 5, 3, 4, 2, 1, 0], true, ⟨(some 36), .call k_slices_Clone_byte_byte [(.tmp 35)], none⟩⟩, .any),
      (⟨8, [7, 0, 1, 2, 3, 4, 5, 6], true, ⟨none, .store 1 (.tmp 4) (.tmp 36), none⟩⟩, .any),
      (⟨9, [8, 0, 1, 2, 3, 4, 5, 6, 7], true, ⟨none, .store 1 (.tmp 5) (.const (.int .i64 0)), none⟩⟩, .any)]) <|
  .ret
def f_sector_Disk_Read_B23 (n : Nat) (h : Heap) (h0 : Heap) (h1 : Heap) (y12 : Int) (y13 : Value) (v14 : (Heap × Nat)) : Option (Bool × (Heap × Nat)) :=
  bif Nat.beq v14.2 0 then
    (bnd ((Heap.new v14.1 (.cells [(.int .i64 0), (.int .u8 0), (.int .u8 0), (.int .u8 0), (.int .u8 0), (.int .u8 0), (.int .u8 0), (.int .u8 0), (.int .u8 0), (.int .u8 0), (.int .u8 0), (.int .u8 0), (.int .u8 0), (.int .u8 0), (.int .u8 0), (.int .u8 0), (.int .u8 0), (.int .u8 0), (.int .u8 0), (.int .u8 0), (.int .u8 0), (.int .u8 0), (.int .u8 0), (.int .u8 0), (.int .u8 0), (.int .u8 0), (.int .u8 0), (.int .u8 0), (.int .u8 0), (.int .u8 0), (.int .u8 0), (.int .u8 0), (.int .u8 0), (.int .u8 0), (.int .u8 0), (.int .u8 0), (.int .u8 0), (.int .u8 0), (.int .u8 0), (.int .u8 0), (.int .u8 0), (.int .u8 0), (.int .u8 0), (.int .u8 0), (.int .u8 0), (.int .u8 0), (.int .u8 0), (.int .u8 0), (.int .u8 0), (.int .u8 0), (.int .u8 0), (.int .u8 0), (.int .u8 0), (.int .u8 0), (.int .u8 0), (.int .u8 0), (.int .u8 0), (.int .u8 0), (.int .u8 0), (.int .u8 0), (.int .u8 0), (.int .u8 0), (.int .u8 0), (.int .u8 0), (.int .u8 0)] false 0))) fun h15 =>
    (stB 65 y13 h15 (some (nwA v14.1))).bind fun h16 =>
    (ldT (.int .i64) h16 (some (fa (nwA v14.1) 0))).bind fun x17 =>
    (ldT (.int .i64) h16 (some (nwA h))).bind fun x18 =>
    bif (decide (x17 = x18)) then
      ((sliceArrK h16 64 1 none none (.pointer (some (fa (nwA v14.1) 1)))).bind fun p19 =>
      (f_slices_Clone_byte_byte n p19.1 h16).bind fun p20 =>
      (stB 1 p20.1.1 p20.2 (some (nwA h0))).bind fun h21 =>
      (stB 1 (.int .i64 0) h21 (some (nwA h1))).bind fun h22 =>
      some (false, (h22, 1)))
    else
      (some (true, (h16, 0))))
  else none
noncomputable def sf_sector_Disk_Read (n : Nat) : Sf := sfOf [(k_sector_Disk_asked, s_sector_Disk_asked n), (k_slices_Backward_sector_waiting_sector_waiting, s_slices_Backward_sector_waiting_sector_waiting n), (k_slices_Clone_byte_byte, s_slices_Clone_byte_byte n)]
noncomputable def it_sector_Disk_Read (n : Nat) : It := itOf [(k_slices_Backward_sector_waiting_sector_waiting_1, i_slices_Backward_sector_waiting_sector_waiting_1 n)]
def f_sector_Disk_Read (n : Nat) (u0 : Option Addr) (u1 : Int) (h : Heap) : Option ((Value × Int × Unit) × Heap) :=
  bnd ((Heap.new h (.cells [(.int .i64 u1)] false 0))) fun h0 =>
  bnd ((Heap.new h0 (.cells [(.slice none 0 0)] false 0))) fun h1 =>
  bnd ((Heap.new h1 (.cells [(.int .i64 0)] false 0))) fun h2 =>
  (ldT (.int .i64) h2 (some (nwA h))).bind fun x3 =>
  (f_sector_Disk_asked n u0 x3 h2).bind fun p4 =>
  bif (!decide (p4.1.1 = 0)) then
    ((stB 1 (.slice none 0 0) p4.2 (some (nwA h0))).bind fun h5 =>
    (stB 1 (.int .i64 p4.1.1) h5 (some (nwA h1))).bind fun h6 =>
    (ldT .any h6 (some (nwA h0))).bind fun x7 =>
    bif !isTuple x7 then
      ((ldT (.int .i64) h6 (some (nwA h1))).bind fun x8 =>
      some ((x7, (x8, ())), h6))
    else
      (none))
  else
    ((u0).bind fun q9 =>
    (ldT .any p4.2 (some (fa q9 1))).bind fun x10 =>
    (f_slices_Backward_sector_waiting_sector_waiting n x10 p4.2).bind fun p11 =>
    (f_slices_Backward_sector_waiting_sector_waiting_1 (V := (Heap × Nat)) (fun v => v.1) (fun v h => (h, v.2)) (fun a v => f_sector_Disk_Read_B23 n h h0 h1 a.1 a.2.1 v) n p11.1.1.1 ((Heap.hole (Heap.hole p11.2)), 0)).bind fun v24 =>
    bif Nat.beq v24.2 0 then
      ((u0).bind fun q25 =>
      (ldT .any v24.1 (some (fa q25 0))).bind fun x26 =>
      (ldT (.int .i64) v24.1 (some (nwA h))).bind fun x27 =>
      (ixB 64 x26 x27).bind fun q28 =>
      (sliceArrK v24.1 64 1 none none (.pointer (some q28))).bind fun p29 =>
      (f_slices_Clone_byte_byte n p29.1 v24.1).bind fun p30 =>
      (stB 1 p30.1.1 p30.2 (some (nwA h0))).bind fun h31 =>
      (stB 1 (.int .i64 0) h31 (some (nwA h1))).bind fun h32 =>
      (ldT .any h32 (some (nwA h0))).bind fun x33 =>
      bif !isTuple x33 then
        ((ldT (.int .i64) h32 (some (nwA h1))).bind fun x34 =>
        some ((x33, (x34, ())), h32))
      else
        (none))
    else
      (bif Nat.beq v24.2 1 then
        ((ldT .any v24.1 (some (nwA h0))).bind fun x35 =>
        bif !isTuple x35 then
          ((ldT (.int .i64) v24.1 (some (nwA h1))).bind fun x36 =>
          some ((x35, (x36, ())), v24.1))
        else
          (none))
      else
        (none)))
def rs_sector_Disk_Read : Rs := [(.cell false 1 4, .any), (.cell false 1 5, (.int .i64))]
def ps_sector_Disk_Read : List Ty := [.ptr, (.int .i64)]
theorem e_sector_Disk_Read (n : Nat) (u0 : Option Addr) (u1 : Int) (h : Heap) : f_sector_Disk_Read n u0 u1 h = fB (sf_sector_Disk_Read n) (it_sector_Disk_Read n) n c2_sector_Disk_Read rs_sector_Disk_Read ps_sector_Disk_Read (u0, (u1, ())) h := by kernel_rfl
noncomputable def s_sector_Disk_Read (n : Nat) : Sf1 := mkSf ps_sector_Disk_Read rs_sector_Disk_Read fun a h => f_sector_Disk_Read n a.1 a.2.1 h

/- wicket/super.Encode -/
def c2_super_Encode : C2 :=
  .seq (.reg [(⟨(some 1), .box (.tmp 0), none⟩, .ptr),
      (⟨(some 2), .move (.const (.slice none 0 0)), none⟩, .any),
      (⟨(some 3), .move (.const (.int .i64 0)), none⟩, (.int .i64))]) <|
  .seq (.seq (.reg [(⟨(some 13), .load true 7 (.tmp 1), none⟩, .any),
        (⟨(some 14), .call k_super_Check [(.tmp 13)], none⟩, (.int .i64)),
        (⟨(some 4), .move (.tmp 14), none⟩, (.int .i64))]) <|
    .seq (.reg [(⟨(some 15), .move (.tmp 4), none⟩, (.int .i64)),
        (⟨(some 16), .bin .neq (.tmp 15) (.const (.int .i64 0)), none⟩, .bool)]) <|
    .cond (.tmp 16)
      (.seq (.reg [(⟨(some 17), .move (.tmp 4), none⟩, (.int .i64)),
          (⟨(some 2), .move (.const (.slice none 0 0)), none⟩, .any),
          (⟨(some 3), .move (.tmp 17), none⟩, (.int .i64))]) <|
      .ret)
      (.skip)) <|
  .seq (.reg [(⟨(some 18), .fieldAddr 0 (.tmp 1), none⟩, .ptr),
      (⟨(some 19), .load true 5 (.tmp 18), none⟩, .any),
      (⟨(some 5), .alloc (List.replicate 5 (.int .i64 0)), none⟩, .ptr),
      (⟨none, .store 5 (.tmp 5) (.tmp 19), none⟩, .any)]) <|
  .seq (.reg [(⟨(some 20), .buildSlice 6 1 (List.replicate 6 (.int .u8 0)) [(0, 1, (.const (.int .u8 87))), (1, 1, (.const (.int .u8 73))), (2, 1, (.const (.int .u8 67))), (3, 1, (.const (.int .u8 75))), (4, 1, (.const (.int .u8 69))), (5, 1, (.const (.int .u8 84)))], none⟩, .any),
      (⟨(some 21), .markS (.tmp 20), none⟩, .any),
      (⟨(some 6), .move (.tmp 21), none⟩, .any)]) <|
  .seq (.cutn [(6, .any)] <|
      .seq (.reg [(⟨(some 22), .fieldAddr 0 (.tmp 5), none⟩, .ptr),
          (⟨(some 23), .load false 1 (.tmp 22), none⟩, (.int .i64)),
          (⟨(some 24), .conv .u64 (.tmp 23), none⟩, (.int .u64)),
          (⟨(some 25), .fieldAddr 1 (.tmp 5), none⟩, .ptr),
          (⟨(some 26), .load false 1 (.tmp 25), none⟩, (.int .i64)),
          (⟨(some 27), .conv .u64 (.tmp 26), none⟩, (.int .u64)),
          (⟨(some 28), .fieldAddr 2 (.tmp 5), none⟩, .ptr),
          (⟨(some 29), .load false 1 (.tmp 28), none⟩, (.int .i64)),
          (⟨(some 30), .conv .u64 (.tmp 29), none⟩, (.int .u64)),
          (⟨(some 31), .fieldAddr 3 (.tmp 5), none⟩, .ptr),
          (⟨(some 32), .load false 1 (.tmp 31), none⟩, (.int .i64)),
          (⟨(some 33), .conv .u64 (.tmp 32), none⟩, (.int .u64)),
          (⟨(some 34), .fieldAddr 4 (.tmp 5), none⟩, .ptr),
          (⟨(some 35), .load false 1 (.tmp 34), none⟩, (.int .i64)),
          (⟨(some 36), .conv .u64 (.tmp 35), none⟩, (.int .u64)),
          (⟨(some 37), .fieldAddr 5 (.tmp 1), none⟩, .ptr),
          (⟨(some 38), .load false 1 (.tmp 37), none⟩, (.int .u64)),
          (⟨(some 39), .fieldAddr 6 (.tmp 1), none⟩, .ptr),
          (⟨(some 40), .load false 1 (.tmp 39), none⟩, (.int .u64)),
          (⟨(some 41), .buildSlice 10 1 (List.replicate 10 (.int .u64 0)) [(0, 1, (.const (.int .u64 1))), (1, 1, (.const (.int .u64 0))), (2, 1, (.tmp 24)), (3, 1, (.tmp 27)), (4, 1, (.tmp 30)), (5, 1, (.tmp 33)), (6, 1, (.tmp 36)), (7, 1, (.const (.int .u64 0))), (8, 1, (.tmp 38)), (9, 1, (.tmp 40))], none⟩, .any),
          (⟨(some 42), .lenS (.tmp 41), none⟩, (.int .i64)),
          (⟨(some 43), .move (.const (.int .i64 0)), none⟩, (.int .i64))]) <|
      .block 0 <|
        .loop [(6, .any), (43, (.int .i64))] <|
          .seq (.reg [(⟨(some 44), .bin .lss (.tmp 43) (.tmp 42), none⟩, .any)]) <|
          .seq (.cond (.tmp 44)
              (.skip)
              (.exit 0)) <|
          .seq (.block 1 <|
              .seq (.reg [(⟨(some 45), .move (.tmp 43), none⟩, (.int .i64)),
                  (⟨(some 46), .idxSlice 1 (.tmp 41) (.tmp 43), none⟩, .ptr),
                  (⟨(some 47), .load false 1 (.tmp 46), none⟩, (.int .u64)),
                  (⟨(some 7), .move (.tmp 45), none⟩, (.int .i64)),
                  (⟨(some 8), .move (.tmp 47), none⟩, (.int .u64))]) <|
              .seq (.reg [(⟨(some 49), .move (.tmp 8), none⟩, (.int .u64)),
                  (⟨(some 50), .move (.tmp 7), none⟩, (.int .i64)),
                  (⟨(some 51), .idxArr 10 1 (.global 0) (.tmp 50), none⟩, .ptr),
                  (⟨(some 52), .load false 1 (.tmp 51), none⟩, (.int .i64)),
                  (⟨(some 53), .call k_octet_Put [(.tmp 49), (.tmp 52)], none⟩, .any),
                  (⟨(some 48), .move (.tmp 53), none⟩, .any),
                  (⟨(some 54), .extract (.tmp 48) 0, none⟩, .any),
                  (⟨(some 55), .extract (.tmp 48) 1, none⟩, (.int .i64)),
                  (⟨(some 9), .move (.tmp 54), none⟩, .any),
                  (⟨(some 10), .move (.tmp 55), none⟩, (.int .i64))]) <|
              .reg [(⟨(some 56), .move (.tmp 6), none⟩, .any),
                (⟨(some 57), .move (.tmp 9), none⟩, .any),
                (⟨(some 58), .append 1 1 (.tmp 56) (.tmp 57), none⟩, .any),
                (⟨(some 6), .move (.tmp 58), none⟩, .any)]) <|
          .reg [(⟨(some 59), .bin .add (.tmp 43) (.const (.int .i64 1)), none⟩, (.int .i64)),
            (⟨(some 43), .move (.tmp 59), none⟩, (.int .i64))]) <|
  .seq (.reg [(⟨(some 61), .move (.tmp 6), none⟩, .any),
      (⟨(some 62), .call k_octet_Pad [(.tmp 61), (.const (.int .i64 60))], none⟩, .any),
      (⟨(some 60), .move (.tmp 62), none⟩, .any),
      (⟨(some 63), .extract (.tmp 60) 0, none⟩, .any),
      (⟨(some 64), .extract (.tmp 60) 1, none⟩, (.int .i64)),
      (⟨(some 6), .move (.tmp 63), none⟩, .any)]) <|
  .seq (.reg [(⟨(some 66), .move (.tmp 6), none⟩, .any),
      (⟨(some 67), .buildSlice 1 1 [(.slice none 0 0)] [(0, 1, (.tmp 66))], none⟩, .any),
      (⟨(some 68), .call k_sum_Of [(.tmp 67)], none⟩, (.int .u32)),
      (⟨(some 69), .conv .u64 (.tmp 68), none⟩, (.int .u64)),
      (⟨(some 70), .call k_octet_Put [(.tmp 69), (.const (.int .i64 4))], none⟩, .any),
      (⟨(some 65), .move (.tmp 70), none⟩, .any),
      (⟨(some 71), .extract (.tmp 65) 0, none⟩, .any),
      (⟨(some 72), .extract (.tmp 65) 1, none⟩, (.int .i64)),
      (⟨(some 11), .move (.tmp 71), none⟩, .any),
      (⟨(some 12), .move (.tmp 72), none⟩, (.int .i64))]) <|
  .seq (.reg [(⟨(some 73), .move (.tmp 6), none⟩, .any),
      (⟨(some 74), .move (.tmp 11), none⟩, .any),
      (⟨(some 75), .append 1 1 (.tmp 73) (.tmp 74), none⟩, .any),
      (⟨(some 2), .move (.tmp 75), none⟩, .any),
      (⟨(some 3), .move (.const (.int .i64 0)), none⟩, (.int .i64))]) <|
  .ret
def f_super_Encode_L28 (n : Nat) (p8 : (Value × Heap)) (n18 : Nat) (v19 : Value) (v20 : Int) (h21 : Heap) : Option (((Value × Int × Unit) × Heap) ⊕ ((Value × Unit) × Heap)) :=
  bif (decide (v20 < (n18 : Int))) then
    ((ixB 1 (.slice (some ⟨Heap.next p8.2, 0, some 0⟩) 10 10) v20).bind fun q22 =>
    (ldT (.int .u64) h21 (some q22)).bind fun x23 =>
    (ixA 10 1 (some ⟨0, 0, none⟩) v20).bind fun q24 =>
    (ldT (.int .i64) h21 (some q24)).bind fun x25 =>
    (f_octet_Put n x23 x25 h21).bind fun p26 =>
    (appendK p26.2 1 1 v19 p26.1.1).bind fun p27 =>
    some (.inl ((p27.1, ((IntKind.i64.wrap (v20 + 1)), ())), p27.2)))
  else
    (some (.inr ((v19, ()), h21)))
noncomputable def sf_super_Encode (n : Nat) : Sf := sfOf [(k_super_Check, s_super_Check n), (k_octet_Put, s_octet_Put n), (k_octet_Pad, s_octet_Pad n), (k_sum_Of, s_sum_Of n)]
noncomputable def it_super_Encode (n : Nat) : It := itOf []
def f_super_Encode (n : Nat) (u0 : Value) (h : Heap) : Option ((Value × Int × Unit) × Heap) :=
  bif (cellsOf u0).all isCell then
    (bnd ((Heap.new h (.cells (cellsOf u0) false 0))) fun h0 =>
    (ldA 7 h0 (some (nwA h))).bind fun cs1 =>
    (f_super_Check n (.agg ⟨cs1⟩) h0).bind fun p2 =>
    bif (!decide (p2.1.1 = 0)) then
      (some (((.slice none 0 0), (p2.1.1, ())), p2.2))
    else
      ((ldA 5 p2.2 (some (fa (nwA h) 0))).bind fun cs3 =>
      bnd ((Heap.new p2.2 (.cells (List.replicate 5 (.int .i64 0)) false 0))) fun h4 =>
      (stB 5 (.agg ⟨cs3⟩) h4 (some (nwA p2.2))).bind fun h5 =>
      (fillL (List.replicate 6 (.int .u8 0)) [(0, 1, (.int .u8 87)), (1, 1, (.int .u8 73)), (2, 1, (.int .u8 67)), (3, 1, (.int .u8 75)), (4, 1, (.int .u8 69)), (5, 1, (.int .u8 84))]).bind fun cs6 =>
      bnd ((Heap.new h5 (.cells cs6 false 1))) fun h7 =>
      (markSK h7 (.slice (some ⟨Heap.next h5, 0, some 0⟩) 6 6)).bind fun p8 =>
      (((ldT (.int .i64) p8.2 (some (fa (nwA p2.2) 0))).bind fun x9 =>
        (ldT (.int .i64) p8.2 (some (fa (nwA p2.2) 1))).bind fun x10 =>
        (ldT (.int .i64) p8.2 (some (fa (nwA p2.2) 2))).bind fun x11 =>
        (ldT (.int .i64) p8.2 (some (fa (nwA p2.2) 3))).bind fun x12 =>
        (ldT (.int .i64) p8.2 (some (fa (nwA p2.2) 4))).bind fun x13 =>
        (ldT (.int .u64) p8.2 (some (fa (nwA h) 5))).bind fun x14 =>
        (ldT (.int .u64) p8.2 (some (fa (nwA h) 6))).bind fun x15 =>
        (fillL (List.replicate 10 (.int .u64 0)) [(0, 1, (.int .u64 1)), (1, 1, (.int .u64 0)), (2, 1, (.int .u64 (IntKind.u64.wrap (x9)))), (3, 1, (.int .u64 (IntKind.u64.wrap (x10)))), (4, 1, (.int .u64 (IntKind.u64.wrap (x11)))), (5, 1, (.int .u64 (IntKind.u64.wrap (x12)))), (6, 1, (.int .u64 (IntKind.u64.wrap (x13)))), (7, 1, (.int .u64 0)), (8, 1, (.int .u64 x14)), (9, 1, (.int .u64 x15))]).bind fun cs16 =>
        bnd ((Heap.new p8.2 (.cells cs16 false 1))) fun h17 =>
        (lenB (.slice (some ⟨Heap.next p8.2, 0, some 0⟩) 10 10)).bind fun n18 =>
        loopT (fun a => f_super_Encode_L28 n p8 n18 a.1.1 a.1.2.1 a.2) n ((p8.1, (0, ())), h17)) : Option ((Value × Unit) × Heap)).bind fun a29 =>
      (f_octet_Pad n a29.1.1 60 a29.2).bind fun p30 =>
      (fillL [(.slice none 0 0)] [(0, 1, p30.1.1)]).bind fun cs31 =>
      bnd ((Heap.new p30.2 (.cells cs31 false 1))) fun h32 =>
      (f_sum_Of n (.slice (some ⟨Heap.next p30.2, 0, some 0⟩) 1 1) h32).bind fun p33 =>
      (f_octet_Put n (IntKind.u64.wrap (p33.1.1)) 4 p33.2).bind fun p34 =>
      (appendK p34.2 1 1 p30.1.1 p34.1.1).bind fun p35 =>
      bif !isTuple p35.1 then
        (some ((p35.1, (0, ())), p35.2))
      else
        (none)))
  else
    (none)
def rs_super_Encode : Rs := [(.tmp 2, .any), (.tmp 3, (.int .i64))]
def ps_super_Encode : List Ty := [.any]
theorem e_super_Encode (n : Nat) (u0 : Value) (h : Heap) : f_super_Encode n u0 h = fB (sf_super_Encode n) (it_super_Encode n) n c2_super_Encode rs_super_Encode ps_super_Encode (u0, ()) h := by kernel_rfl
noncomputable def s_super_Encode (n : Nat) : Sf1 := mkSf ps_super_Encode rs_super_Encode fun a h => f_super_Encode n a.1 h

/- wicket/home.has -/
def c2_home_has : C2 :=
  .seq (.reg [(⟨(some 4), .box (.tmp 1), none⟩, .ptr),
      (⟨(some 6), .move (.const (.int .i64 0)), none⟩, (.int .i64))]) <|
  .seq (.seq (.reg [(⟨(some 8), .move (.tmp 0), none⟩, .ptr),
        (⟨(some 9), .load true 5 (.tmp 4), none⟩, .any),
        (⟨(some 10), .call k_home_fits [(.tmp 8), (.tmp 9)], none⟩, (.int .i64)),
        (⟨(some 7), .move (.tmp 10), none⟩, (.int .i64))]) <|
    .seq (.reg [(⟨(some 11), .move (.tmp 7), none⟩, (.int .i64)),
        (⟨(some 12), .bin .neq (.tmp 11) (.const (.int .i64 0)), none⟩, .bool)]) <|
    .cond (.tmp 12)
      (.seq (.reg [(⟨(some 13), .move (.tmp 7), none⟩, (.int .i64)),
          (⟨(some 6), .move (.tmp 13), none⟩, (.int .i64))]) <|
      .ret)
      (.skip)) <|
  .seq (.seq (.cutn [(21, .bool)] <|
        .reg [(⟨(some 14), .move (.tmp 2), none⟩, (.int .i64)),
          (⟨(some 15), .bin .lss (.tmp 14) (.const (.int .i64 0)), none⟩, .bool),
          (⟨(some 16), .move (.tmp 15), none⟩, .bool),
          (⟨(some 17), .move (.tmp 2), some (16, false)⟩, (.int .i64)),
          (⟨(some 18), .fieldAddr 0 (.tmp 4), some (16, false)⟩, .ptr),
          (⟨(some 19), .load false 1 (.tmp 18), some (16, false)⟩, (.int .i64)),
          (⟨(some 20), .bin .geq (.tmp 17) (.tmp 19), some (16, false)⟩, .bool),
          (⟨(some 21), .pick (.tmp 16) (.const (.bool true)) (.tmp 20), none⟩, .bool)]) <|
    .cond (.tmp 21)
      (.seq (.reg [(⟨(some 6), .move (.const (.int .i64 51)), none⟩, (.int .i64))]) <|
      .ret)
      (.skip)) <|
  .seq (.reg [(⟨(some 6), .move (.const (.int .i64 0)), none⟩, (.int .i64))]) <|
  .ret
noncomputable def sf_home_has (n : Nat) : Sf := sfOf [(k_home_fits, s_home_fits n)]
noncomputable def it_home_has (n : Nat) : It := itOf []
def f_home_has (n : Nat) (u0 : Option Addr) (u1 : Value) (u2 : Int) (h : Heap) : Option ((Int × Unit) × Heap) :=
  bif (cellsOf u1).all isCell then
    (bnd ((Heap.new h (.cells (cellsOf u1) false 0))) fun h0 =>
    (ldA 5 h0 (some (nwA h))).bind fun cs1 =>
    (f_home_fits n u0 (.agg ⟨cs1⟩) h0).bind fun p2 =>
    bif (!decide (p2.1.1 = 0)) then
      (some ((p2.1.1, ()), p2.2))
    else
      (((bif (decide (u2 < 0)) then
          (some ((true, ()), p2.2))
        else
          ((ldT (.int .i64) p2.2 (some (fa (nwA h) 0))).bind fun x3 =>
          some (((decide (x3 ≤ u2)), ()), p2.2))) : Option ((Bool × Unit) × Heap)).bind fun a4 =>
      bif a4.1.1 then
        (some ((51, ()), a4.2))
      else
        (some ((0, ()), a4.2))))
  else
    (none)
def rs_home_has : Rs := [(.tmp 6, (.int .i64))]
def ps_home_has : List Ty := [.ptr, .any, (.int .i64)]
theorem e_home_has (n : Nat) (u0 : Option Addr) (u1 : Value) (u2 : Int) (h : Heap) : f_home_has n u0 u1 u2 h = fB (sf_home_has n) (it_home_has n) n c2_home_has rs_home_has ps_home_has (u0, (u1, (u2, ()))) h := by kernel_rfl
noncomputable def s_home_has (n : Nat) : Sf1 := mkSf ps_home_has rs_home_has fun a h => f_home_has n a.1 a.2.1 a.2.2.1 h

/- wicket/home.New -/
def c2_home_New : C2 :=
  .seq (.reg [(⟨(some 1), .box (.tmp 0), none⟩, .ptr),
      (⟨(some 2), .move (.const (.pointer none)), none⟩, .ptr),
      (⟨(some 3), .move (.const (.int .i64 0)), none⟩, (.int .i64))]) <|
  .seq (.reg [(⟨(some 11), .load true 5 (.tmp 1), none⟩, .any),
      (⟨(some 12), .build [(.int .i64 0), (.int .i64 0), (.int .i64 0), (.int .i64 0), (.int .i64 0), (.int .u64 0), (.int .u64 0)] [(0, 5, (.tmp 11)), (6, 1, (.const (.int .u64 1)))], none⟩, .any),
      (⟨(some 13), .call k_super_Encode [(.tmp 12)], none⟩, .any),
      (⟨(some 10), .move (.tmp 13), none⟩, .any),
      (⟨(some 14), .extract (.tmp 10) 0, none⟩, .any),
      (⟨(some 15), .extract (.tmp 10) 1, none⟩, (.int .i64)),
      (⟨(some 4), .move (.tmp 14), none⟩, .any),
      (⟨(some 5), .move (.tmp 15), none⟩, (.int .i64))]) <|
  .seq (.seq (.reg [(⟨(some 16), .move (.tmp 5), none⟩, (.int .i64)),
        (⟨(some 17), .bin .neq (.tmp 16) (.const (.int .i64 0)), none⟩, .bool)]) <|
    .cond (.tmp 17)
      (.seq (.reg [(⟨(some 18), .move (.tmp 5), none⟩, (.int .i64)),
          (⟨(some 2), .move (.const (.pointer none)), none⟩, .ptr),
          (⟨(some 3), .move (.tmp 18), none⟩, (.int .i64))]) <|
      .ret)
      (.skip)) <|
  .seq (.reg [(⟨(some 19), .move (.tmp 4), none⟩, .any),
      (⟨(some 6), .move (.tmp 19), none⟩, .any)]) <|
  .seq (.cut [(6, .any)] <|
      .seq (.reg [(⟨(some 20), .fieldAddr 0 (.tmp 1), none⟩, .ptr),
          (⟨(some 21), .load false 1 (.tmp 20), none⟩, (.int .i64)),
          (⟨(some 22), .move (.const (.int .i64 0)), none⟩, (.int .i64))]) <|
      .block 0 <|
        .loop [(6, .any), (22, (.int .i64))] <|
          .seq (.reg [(⟨(some 23), .bin .lss (.tmp 22) (.tmp 21), none⟩, .bool)]) <|
          .seq (.cond (.tmp 23)
              (.skip)
              (.exit 0)) <|
          .seq (.block 1 <|
              .seq (.reg [(⟨(some 24), .move (.tmp 22), none⟩, (.int .i64)),
                  (⟨(some 7), .move (.tmp 24), none⟩, (.int .i64))]) <|
              .seq (.reg [(⟨(some 26), .move (.tmp 7), none⟩, (.int .i64)),
                  (⟨(some 27), .build (List.replicate 32 (.int .u8 0)) [], none⟩, .any),
                  (⟨(some 28), .call k_home_Encode [(.tmp 26), (.tmp 27)], none⟩, .any),
                  (⟨(some 25), .move (.tmp 28), none⟩, .any),
                  (⟨(some 29), .extract (.tmp 25) 0, none⟩, .any),
                  (⟨(some 30), .extract (.tmp 25) 1, none⟩, (.int .i64)),
                  (⟨(some 8), .move (.tmp 29), none⟩, .any),
                  (⟨(some 9), .move (.tmp 30), none⟩, (.int .i64))]) <|
              .seq (.seq (.reg [(⟨(some 31), .move (.tmp 9), none⟩, (.int .i64)),
                    (⟨(some 32), .bin .neq (.tmp 31) (.const (.int .i64 0)), none⟩, .bool)]) <|
                .cond (.tmp 32)
                  (.seq (.reg [(⟨(some 33), .move (.tmp 9), none⟩, (.int .i64)),
                      (⟨(some 2), .move (.const (.pointer none)), none⟩, .ptr),
                      (⟨(some 3), .move (.tmp 33), none⟩, (.int .i64))]) <|
                  .ret)
                  (.skip)) <|
              .reg [(⟨(some 34), .move (.tmp 6), none⟩, .any),
                (⟨(some 35), .move (.tmp 8), none⟩, .any),
                (⟨(some 36), .buildSlice 2 1 [(.slice none 0 0), (.slice none 0 0)] [(0, 1, (.tmp 34)), (1, 1, (.tmp 35))], none⟩, .any),
                (⟨(some 37), .call k_octet_Join [(.tmp 36)], none⟩, .any),
                (⟨(some 6), .move (.tmp 37), none⟩, .any)]) <|
          .reg [(⟨(some 38), .bin .add (.tmp 22) (.const (.int .i64 1)), none⟩, (.int .i64)),
            (⟨(some 22), .move (.tmp 38), none⟩, (.int .i64))]) <|
  .seq (.reg [(⟨(some 39), .move (.tmp 6), none⟩, .any),
      (⟨(some 40), .fieldAddr 1 (.tmp 1), none⟩, .ptr),
      (⟨(some 41), .load false 1 (.tmp 40), none⟩, (.int .i64)),
      (⟨(some 42), .bin .mul (.const (.int .i64 64)) (.tmp 41), none⟩, (.int .i64)),
      (⟨(some 43), .makeSlice 1 1 [(.int .u8 0)] (.tmp 42) (.tmp 42), none⟩, .any),
      (⟨(some 44), .buildSlice 2 1 [(.slice none 0 0), (.slice none 0 0)] [(0, 1, (.tmp 39)), (1, 1, (.tmp 43))], none⟩, .any),
      (⟨(some 45), .call k_octet_Join [(.tmp 44)], none⟩, .any),
      (⟨(some 46), .call k_sector_Load [(.tmp 45)], none⟩, .any),
      (⟨(some 47), .extract (.tmp 46) 0, none⟩, .ptr),
      (⟨(some 48), .extract (.tmp 46) 1, none⟩, (.int .i64)),
      (⟨(some 2), .move (.tmp 47), none⟩, .ptr),
      (⟨(some 3), .move (.tmp 48), none⟩, (.int .i64))]) <|
  .ret
def f_home_New_L14 (n : Nat) (x5 : Int) (v6 : Value) (v7 : Int) (h8 : Heap) : Option (((Value × Int × Unit) × Heap) ⊕ (((Value × Unit) × Heap) ⊕ ((Option Addr × Int × Unit) × Heap))) :=
  bif (decide (v7 < x5)) then
    ((fillL (List.replicate 32 (.int .u8 0)) []).bind fun cs9 =>
    (f_home_Encode n v7 (.agg ⟨cs9⟩) h8).bind fun p10 =>
    bif (!decide (p10.1.2.1 = 0)) then
      (some (.inr (.inr ((none, (p10.1.2.1, ())), p10.2))))
    else
      ((fillL [(.slice none 0 0), (.slice none 0 0)] [(0, 1, v6), (1, 1, p10.1.1)]).bind fun cs11 =>
      bnd ((Heap.new p10.2 (.cells cs11 false 1))) fun h12 =>
      (f_octet_Join n (.slice (some ⟨Heap.next p10.2, 0, some 0⟩) 2 2) h12).bind fun p13 =>
      some (.inl ((p13.1.1, ((IntKind.i64.wrap (v7 + 1)), ())), p13.2))))
  else
    (some (.inr (.inl ((v6, ()), h8))))
def f_home_New_C15 (n : Nat) (h : Heap) (p3 : ((Value × Int × Unit) × Heap)) (h4 : Heap) : Option (((Value × Unit) × Heap) ⊕ ((Option Addr × Int × Unit) × Heap)) :=
  (ldT (.int .i64) h4 (some (fa (nwA h) 0))).bind fun x5 =>
  loopT (fun a => f_home_New_L14 n x5 a.1.1 a.1.2.1 a.2) n ((p3.1.1, (0, ())), h4)
noncomputable def sf_home_New (n : Nat) : Sf := sfOf [(k_super_Encode, s_super_Encode n), (k_home_Encode, s_home_Encode n), (k_octet_Join, s_octet_Join n), (k_sector_Load, s_sector_Load n)]
noncomputable def it_home_New (n : Nat) : It := itOf []
def f_home_New (n : Nat) (u0 : Value) (h : Heap) : Option ((Option Addr × Int × Unit) × Heap) :=
  bif (cellsOf u0).all isCell then
    (bnd ((Heap.new h (.cells (cellsOf u0) false 0))) fun h0 =>
    (ldA 5 h0 (some (nwA h))).bind fun cs1 =>
    (fillL [(.int .i64 0), (.int .i64 0), (.int .i64 0), (.int .i64 0), (.int .i64 0), (.int .u64 0), (.int .u64 0)] [(0, 5, (.agg ⟨cs1⟩)), (6, 1, (.int .u64 1))]).bind fun cs2 =>
    (f_super_Encode n (.agg ⟨cs2⟩) h0).bind fun p3 =>
    bif (!decide (p3.1.2.1 = 0)) then
      (some ((none, (p3.1.2.1, ())), p3.2))
    else
      (thenB (f_home_New_C15 n h p3 (p3.2)) fun a16 =>
      (ldT (.int .i64) a16.2 (some (fa (nwA h) 1))).bind fun x17 =>
      (mkSl (Heap.next a16.2) 1 1 [(.int .u8 0)] (.int .i64 (IntKind.i64.wrap (64 * x17))) (.int .i64 (IntKind.i64.wrap (64 * x17)))).bind fun p18 =>
      bnd ((Heap.new a16.2 (p18.2))) fun h19 =>
      (fillL [(.slice none 0 0), (.slice none 0 0)] [(0, 1, a16.1.1), (1, 1, p18.1)]).bind fun cs20 =>
      bnd ((Heap.new h19 (.cells cs20 false 1))) fun h21 =>
      (f_octet_Join n (.slice (some ⟨Heap.next h19, 0, some 0⟩) 2 2) h21).bind fun p22 =>
      (f_sector_Load n p22.1.1 p22.2).bind fun p23 =>
      some ((p23.1.1, (p23.1.2.1, ())), p23.2)))
  else
    (none)
def rs_home_New : Rs := [(.tmp 2, .ptr), (.tmp 3, (.int .i64))]
def ps_home_New : List Ty := [.any]
theorem e_home_New (n : Nat) (u0 : Value) (h : Heap) : f_home_New n u0 h = fB (sf_home_New n) (it_home_New n) n c2_home_New rs_home_New ps_home_New (u0, ()) h := by kernel_rfl
noncomputable def s_home_New (n : Nat) : Sf1 := mkSf ps_home_New rs_home_New fun a h => f_home_New n a.1 h

/- wicket/home.Save -/
def c2_home_Save : C2 :=
  .seq (.reg [(⟨(some 5), .box (.tmp 1), none⟩, .ptr),
      (⟨(some 7), .box (.tmp 3), none⟩, .ptr),
      (⟨(some 8), .move (.const (.int .i64 0)), none⟩, (.int .i64))]) <|
  .seq (.seq (.reg [(⟨(some 12), .move (.tmp 0), none⟩, .ptr),
        (⟨(some 13), .load true 5 (.tmp 5), none⟩, .any),
        (⟨(some 14), .move (.tmp 2), none⟩, (.int .i64)),
        (⟨(some 15), .call k_home_has [(.tmp 12), (.tmp 13), (.tmp 14)], none⟩, (.int .i64)),
        (⟨(some 9), .move (.tmp 15), none⟩, (.int .i64))]) <|
    .seq (.reg [(⟨(some 16), .move (.tmp 9), none⟩, (.int .i64)),
        (⟨(some 17), .bin .neq (.tmp 16) (.const (.int .i64 0)), none⟩, .bool)]) <|
    .cond (.tmp 17)
      (.seq (.reg [(⟨(some 18), .move (.tmp 9), none⟩, (.int .i64)),
          (⟨(some 8), .move (.tmp 18), none⟩, (.int .i64))]) <|
      .ret)
      (.skip)) <|
  .seq (.reg [(⟨(some 20), .move (.tmp 2), none⟩, (.int .i64)),
      (⟨(some 21), .load true 32 (.tmp 7), none⟩, .any),
      (⟨(some 22), .call k_home_Encode [(.tmp 20), (.tmp 21)], none⟩, .any),
      (⟨(some 19), .move (.tmp 22), none⟩, .any),
      (⟨(some 23), .extract (.tmp 19) 0, none⟩, .any),
      (⟨(some 24), .extract (.tmp 19) 1, none⟩, (.int .i64)),
      (⟨(some 10), .move (.tmp 23), none⟩, .any),
      (⟨(some 11), .move (.tmp 24), none⟩, (.int .i64))]) <|
  .seq (.seq (.reg [(⟨(some 25), .move (.tmp 11), none⟩, (.int .i64)),
        (⟨(some 26), .bin .neq (.tmp 25) (.const (.int .i64 0)), none⟩, .bool)]) <|
    .cond (.tmp 26)
      (.seq (.reg [(⟨(some 27), .move (.tmp 11), none⟩, (.int .i64)),
          (⟨(some 8), .move (.tmp 27), none⟩, (.int .i64))]) <|
      .ret)
      (.skip)) <|
  .seq (.reg [(⟨(some 28), .move (.tmp 0), none⟩, .ptr),
      (⟨(some 29), .move (.tmp 2), none⟩, (.int .i64)),
      (⟨(some 30), .bin .add (.const (.int .i64 1)) (.tmp 29), none⟩, (.int .i64)),
      (⟨(some 31), .move (.tmp 10), none⟩, .any),
      (⟨(some 32), .call k_sector_Disk_Write [(.tmp 28), (.tmp 30), (.tmp 31)], none⟩, (.int .i64)),
      (⟨(some 8), .move (.tmp 32), none⟩, (.int .i64))]) <|
  .ret
noncomputable def sf_home_Save (n : Nat) : Sf := sfOf [(k_home_has, s_home_has n), (k_home_Encode, s_home_Encode n), (k_sector_Disk_Write, s_sector_Disk_Write n)]
noncomputable def it_home_Save (n : Nat) : It := itOf []
def f_home_Save (n : Nat) (u0 : Option Addr) (u1 : Value) (u2 : Int) (u3 : Value) (h : Heap) : Option ((Int × Unit) × Heap) :=
  bif (cellsOf u1).all isCell then
    (bnd ((Heap.new h (.cells (cellsOf u1) false 0))) fun h0 =>
    bif (cellsOf u3).all isCell then
      (bnd ((Heap.new h0 (.cells (cellsOf u3) false 0))) fun h1 =>
      (ldA 5 h1 (some (nwA h))).bind fun cs2 =>
      (f_home_has n u0 (.agg ⟨cs2⟩) u2 h1).bind fun p3 =>
      bif (!decide (p3.1.1 = 0)) then
        (some ((p3.1.1, ()), p3.2))
      else
        ((ldA 32 p3.2 (some (nwA h0))).bind fun cs4 =>
        (f_home_Encode n u2 (.agg ⟨cs4⟩) p3.2).bind fun p5 =>
        bif (!decide (p5.1.2.1 = 0)) then
          (some ((p5.1.2.1, ()), p5.2))
        else
          ((f_sector_Disk_Write n u0 (IntKind.i64.wrap (1 + u2)) p5.1.1 p5.2).bind fun p6 =>
          some ((p6.1.1, ()), p6.2))))
    else
      (none))
  else
    (none)
def rs_home_Save : Rs := [(.tmp 8, (.int .i64))]
def ps_home_Save : List Ty := [.ptr, .any, (.int .i64), .any]
theorem e_home_Save (n : Nat) (u0 : Option Addr) (u1 : Value) (u2 : Int) (u3 : Value) (h : Heap) : f_home_Save n u0 u1 u2 u3 h = fB (sf_home_Save n) (it_home_Save n) n c2_home_Save rs_home_Save ps_home_Save (u0, (u1, (u2, (u3, ())))) h := by kernel_rfl
noncomputable def s_home_Save (n : Nat) : Sf1 := mkSf ps_home_Save rs_home_Save fun a h => f_home_Save n a.1 a.2.1 a.2.2.1 a.2.2.2.1 h

/- wicket/home.Load -/
def c2_home_Load : C2 :=
  .seq (.reg [(⟨(some 4), .box (.tmp 1), none⟩, .ptr),
      (⟨(some 6), .alloc (List.replicate 32 (.int .u8 0)), none⟩, .ptr),
      (⟨(some 7), .move (.const (.int .i64 0)), none⟩, (.int .i64))]) <|
  .seq (.seq (.reg [(⟨(some 11), .move (.tmp 0), none⟩, .ptr),
        (⟨(some 12), .load true 5 (.tmp 4), none⟩, .any),
        (⟨(some 13), .move (.tmp 2), none⟩, (.int .i64)),
        (⟨(some 14), .call k_home_has [(.tmp 11), (.tmp 12), (.tmp 13)], none⟩, (.int .i64)),
        (⟨(some 8), .move (.tmp 14), none⟩, (.int .i64))]) <|
    .seq (.reg [(⟨(some 15), .move (.tmp 8), none⟩, (.int .i64)),
        (⟨(some 16), .bin .neq (.tmp 15) (.const (.int .i64 0)), none⟩, .bool)]) <|
    .cond (.tmp 16)
      (.seq (.reg [(⟨(some 17), .build (List.replicate 32 (.int .u8 0)) [], none⟩, .any),
          (⟨(some 18), .move (.tmp 8), none⟩, (.int .i64)),
          (⟨none, .store 32 (.tmp 6) (.tmp 17), none⟩, .any),
          (⟨(some 7), .move (.tmp 18), none⟩, (.int .i64))]) <|
      .ret)
      (.skip)) <|
  .seq (.reg [(⟨(some 20), .move (.tmp 0), none⟩, .ptr),
      (⟨(some 21), .move (.tmp 2), none⟩, (.int .i64)),
      (⟨(some 22), .bin .add (.const (.int .i64 1)) (.tmp 21), none⟩, (.int .i64)),
      (⟨(some 23), .call k_sector_Disk_Read [(.tmp 20), (.tmp 22)], none⟩, .any),
      (⟨(some 19), .move (.tmp 23), none⟩, .any),
      (⟨(some 24), .extract (.tmp 19) 0, none⟩, .any),
      (⟨(some 25), .extract (.tmp 19) 1, none⟩, (.int .i64)),
      (⟨(some 9), .move (.tmp 24), none⟩, .any),
      (⟨(some 10), .move (.tmp 25), none⟩, (.int .i64))]) <|
  .seq (.seq (.reg [(⟨(some 26), .move (.tmp 10), none⟩, (.int .i64)),
        (⟨(some 27), .bin .neq (.tmp 26) (.const (.int .i64 0)), none⟩, .bool)]) <|
    .cond (.tmp 27)
      (.seq (.reg [(⟨(some 28), .build (List.replicate 32 (.int .u8 0)) [], none⟩, .any),
          (⟨(some 29), .move (.tmp 10), none⟩, (.int .i64)),
          (⟨none, .store 32 (.tmp 6) (.tmp 28), none⟩, .any),
          (⟨(some 7), .move (.tmp 29), none⟩, (.int .i64))]) <|
      .ret)
      (.skip)) <|
  .seq (.reg [(⟨(some 30), .move (.tmp 9), none⟩, .any),
      (⟨(some 31), .move (.tmp 2), none⟩, (.int .i64)),
      (⟨(some 32), .call k_home_Decode [(.tmp 30), (.tmp 31)], none⟩, .any),
      (⟨(some 33), .extract (.tmp 32) 0, none⟩, .any),
      (⟨(some 34), .extract (.tmp 32) 1, none⟩, (.int .i64)),
      (⟨none, .store 32 (.tmp 6) (.tmp 33), none⟩, .any),
      (⟨(some 7), .move (.tmp 34), none⟩, (.int .i64))]) <|
  .ret
noncomputable def sf_home_Load (n : Nat) : Sf := sfOf [(k_home_has, s_home_has n), (k_sector_Disk_Read, s_sector_Disk_Read n), (k_home_Decode, s_home_Decode n)]
noncomputable def it_home_Load (n : Nat) : It := itOf []
def f_home_Load (n : Nat) (u0 : Option Addr) (u1 : Value) (u2 : Int) (h : Heap) : Option ((Value × Int × Unit) × Heap) :=
  bif (cellsOf u1).all isCell then
    (bnd ((Heap.new h (.cells (cellsOf u1) false 0))) fun h0 =>
    bnd ((Heap.new h0 (.cells (List.replicate 32 (.int .u8 0)) false 0))) fun h1 =>
    (ldA 5 h1 (some (nwA h))).bind fun cs2 =>
    (f_home_has n u0 (.agg ⟨cs2⟩) u2 h1).bind fun p3 =>
    bif (!decide (p3.1.1 = 0)) then
      ((fillL (List.replicate 32 (.int .u8 0)) []).bind fun cs4 =>
      (stB 32 (.agg ⟨cs4⟩) p3.2 (some (nwA h0))).bind fun h5 =>
      (ldA 32 h5 (some (nwA h0))).bind fun cs6 =>
      some (((.agg ⟨cs6⟩), (p3.1.1, ())), h5))
    else
      ((f_sector_Disk_Read n u0 (IntKind.i64.wrap (1 + u2)) p3.2).bind fun p7 =>
      bif (!decide (p7.1.2.1 = 0)) then
        ((fillL (List.replicate 32 (.int .u8 0)) []).bind fun cs8 =>
        (stB 32 (.agg ⟨cs8⟩) p7.2 (some (nwA h0))).bind fun h9 =>
        (ldA 32 h9 (some (nwA h0))).bind fun cs10 =>
        some (((.agg ⟨cs10⟩), (p7.1.2.1, ())), h9))
      else
        ((f_home_Decode n p7.1.1 u2 p7.2).bind fun p11 =>
        (stB 32 p11.1.1 p11.2 (some (nwA h0))).bind fun h12 =>
        (ldA 32 h12 (some (nwA h0))).bind fun cs13 =>
        some (((.agg ⟨cs13⟩), (p11.1.2.1, ())), h12))))
  else
    (none)
def rs_home_Load : Rs := [(.cell true 32 6, .any), (.tmp 7, (.int .i64))]
def ps_home_Load : List Ty := [.ptr, .any, (.int .i64)]
theorem e_home_Load (n : Nat) (u0 : Option Addr) (u1 : Value) (u2 : Int) (h : Heap) : f_home_Load n u0 u1 u2 h = fB (sf_home_Load n) (it_home_Load n) n c2_home_Load rs_home_Load ps_home_Load (u0, (u1, (u2, ()))) h := by kernel_rfl
noncomputable def s_home_Load (n : Nat) : Sf1 := mkSf ps_home_Load rs_home_Load fun a h => f_home_Load n a.1 a.2.1 a.2.2.1 h

/- wicket/home.All -/
def c2_home_All : C2 :=
  .seq (.reg [(⟨(some 3), .box (.tmp 1), none⟩, .ptr),
      (⟨(some 4), .move (.const (.slice none 0 0)), none⟩, .any),
      (⟨(some 5), .move (.const (.int .i64 0)), none⟩, (.int .i64))]) <|
  .seq (.seq (.reg [(⟨(some 11), .move (.tmp 0), none⟩, .ptr),
        (⟨(some 12), .load true 5 (.tmp 3), none⟩, .any),
        (⟨(some 13), .call k_home_fits [(.tmp 11), (.tmp 12)], none⟩, (.int .i64)),
        (⟨(some 6), .move (.tmp 13), none⟩, (.int .i64))]) <|
    .seq (.reg [(⟨(some 14), .move (.tmp 6), none⟩, (.int .i64)),
        (⟨(some 15), .bin .neq (.tmp 14) (.const (.int .i64 0)), none⟩, .bool)]) <|
    .cond (.tmp 15)
      (.seq (.reg [(⟨(some 16), .move (.tmp 6), none⟩, (.int .i64)),
          (⟨(some 4), .move (.const (.slice none 0 0)), none⟩, .any),
          (⟨(some 5), .move (.tmp 16), none⟩, (.int .i64))]) <|
      .ret)
      (.skip)) <|
  .seq (.reg [(⟨(some 7), .move (.const (.slice none 0 0)), none⟩, .any)]) <|
  .seq (.cut [(7, .any)] <|
      .seq (.reg [(⟨(some 17), .fieldAddr 0 (.tmp 3), none⟩, .ptr),
          (⟨(some 18), .load false 1 (.tmp 17), none⟩, (.int .i64)),
          (⟨(some 19), .move (.const (.int .i64 0)), none⟩, (.int .i64))]) <|
      .block 0 <|
        .loop [(7, .any), (19, (.int .i64))] <|
          .seq (.reg [(⟨(some 20), .bin .lss (.tmp 19) (.tmp 18), none⟩, .bool)]) <|
          .seq (.cond (.tmp 20)
              (.skip)
              (.exit 0)) <|
          .seq (.block 1 <|
              .seq (.reg [(⟨(some 21), .move (.tmp 19), none⟩, (.int .i64)),
                  (⟨(some 8), .move (.tmp 21), none⟩, (.int .i64))]) <|
              .seq (.reg [(⟨(some 23), .move (.tmp 0), none⟩, .ptr),
                  (⟨(some 24), .load true 5 (.tmp 3), none⟩, .any),
                  (⟨(some 25), .move (.tmp 8), none⟩, (.int .i64)),
                  (⟨(some 26), .call k_home_Load [(.tmp 23), (.tmp 24), (.tmp 25)], none⟩, .any),
                  (⟨(some 22), .move (.tmp 26), none⟩, .any),
                  (⟨(some 27), .extract (.tmp 22) 0, none⟩, .any),
                  (⟨(some 28), .extract (.tmp 22) 1, none⟩, (.int .i64)),
                  (⟨(some 9), .alloc (List.replicate 32 (.int .u8 0)), none⟩, .ptr),
                  (⟨none, .store 32 (.tmp 9) (.tmp 27), none⟩, .any),
                  (⟨(some 10), .move (.tmp 28), none⟩, (.int .i64))]) <|
              .seq (.seq (.reg [(⟨(some 29), .move (.tmp 10), none⟩, (.int .i64)),
                    (⟨(some 30), .bin .neq (.tmp 29) (.const (.int .i64 0)), none⟩, .bool)]) <|
                .cond (.tmp 30)
                  (.seq (.reg [(⟨(some 31), .move (.tmp 10), none⟩, (.int .i64)),
                      (⟨(some 4), .move (.const (.slice none 0 0)), none⟩, .any),
                      (⟨(some 5), .move (.tmp 31), none⟩, (.int .i64))]) <|
                  .ret)
                  (.skip)) <|
              .reg [(⟨(some 32), .move (.tmp 7), none⟩, .any),
                (⟨(some 33), .load true 32 (.tmp 9), none⟩, .any),
                (⟨(some 34), .buildSlice 1 32 (List.replicate 32 (.int .u8 0)) [(0, 32, (.tmp 33))], none⟩, .any),
                (⟨(some 35), .append 32 32 (.tmp 32) (.tmp 34), none⟩, .any),
                (⟨(some 7), .move (.tmp 35), none⟩, .any)]) <|
          .reg [(⟨(some 36), .bin .add (.tmp 19) (.const (.int .i64 1)), none⟩, (.int .i64)),
            (⟨(some 19), .move (.tmp 36), none⟩, (.int .i64))]) <|
  .seq (.reg [(⟨(some 37), .move (.tmp 7), none⟩, .any),
      (⟨(some 4), .move (.tmp 37), none⟩, .any),
      (⟨(some 5), .move (.const (.int .i64 0)), none⟩, (.int .i64))]) <|
  .ret
def f_home_All_L16 (n : Nat) (h : Heap) (u0 : Option Addr) (x4 : Int) (v5 : Value) (v6 : Int) (h7 : Heap) : Option (((Value × Int × Unit) × Heap) ⊕ (((Value × Unit) × Heap) ⊕ ((Value × Int × Unit) × Heap))) :=
  bif (decide (v6 < x4)) then
    ((ldA 5 h7 (some (nwA h))).bind fun cs8 =>
    (f_home_Load n u0 (.agg ⟨cs8⟩) v6 h7).bind fun p9 =>
    bnd ((Heap.new p9.2 (.cells (List.replicate 32 (.int .u8 0)) false 0))) fun h10 =>
    (stB 32 p9.1.1 h10 (some (nwA p9.2))).bind fun h11 =>
    bif (!decide (p9.1.2.1 = 0)) then
      (some (.inr (.inr (((.slice none 0 0), (p9.1.2.1, ())), h11))))
    else
      ((ldA 32 h11 (some (nwA p9.2))).bind fun cs12 =>
      (fillL (List.replicate 32 (.int .u8 0)) [(0, 32, (.agg ⟨cs12⟩))]).bind fun cs13 =>
      bnd ((Heap.new h11 (.cells cs13 false 32))) fun h14 =>
      (appendK h14 32 32 v5 (.slice (some ⟨Heap.next h11, 0, some 0⟩) 1 1)).bind fun p15 =>
      some (.inl ((p15.1, ((IntKind.i64.wrap (v6 + 1)), ())), p15.2))))
  else
    (some (.inr (.inl ((v5, ()), h7))))
def f_home_All_C17 (n : Nat) (h : Heap) (u0 : Option Addr) (h3 : Heap) : Option (((Value × Unit) × Heap) ⊕ ((Value × Int × Unit) × Heap)) :=
  (ldT (.int .i64) h3 (some (fa (nwA h) 0))).bind fun x4 =>
  loopT (fun a => f_home_All_L16 n h u0 x4 a.1.1 a.1.2.1 a.2) n (((.slice none 0 0), (0, ())), h3)
noncomputable def sf_home_All (n : Nat) : Sf := sfOf [(k_home_fits, s_home_fits n), (k_home_Load, s_home_Load n)]
noncomputable def it_home_All (n : Nat) : It := itOf []
def f_home_All (n : Nat) (u0 : Option Addr) (u1 : Value) (h : Heap) : Option ((Value × Int × Unit) × Heap) :=
  bif (cellsOf u1).all isCell then
    (bnd ((Heap.new h (.cells (cellsOf u1) false 0))) fun h0 =>
    (ldA 5 h0 (some (nwA h))).bind fun cs1 =>
    (f_home_fits n u0 (.agg ⟨cs1⟩) h0).bind fun p2 =>
    bif (!decide (p2.1.1 = 0)) then
      (some (((.slice none 0 0), (p2.1.1, ())), p2.2))
    else
      (thenB (f_home_All_C17 n h u0 (p2.2)) fun a18 =>
      bif !isTuple a18.1.1 then
        (some ((a18.1.1, (0, ())), a18.2))
      else
        (none)))
  else
    (none)
def rs_home_All : Rs := [(.tmp 4, .any), (.tmp 5, (.int .i64))]
def ps_home_All : List Ty := [.ptr, .any]
theorem e_home_All (n : Nat) (u0 : Option Addr) (u1 : Value) (h : Heap) : f_home_All n u0 u1 h = fB (sf_home_All n) (it_home_All n) n c2_home_All rs_home_All ps_home_All (u0, (u1, ())) h := by kernel_rfl
noncomputable def s_home_All (n : Nat) : Sf1 := mkSf ps_home_All rs_home_All fun a h => f_home_All n a.1 a.2.1 h

/- wicket/wicketlaw08.HomeKeeps -/
def c2_wicketlaw08_HomeKeeps : C2 :=
  .seq (.reg [(⟨(some 4), .box (.tmp 0), none⟩, .ptr),
      (⟨(some 6), .box (.tmp 2), none⟩, .ptr),
      (⟨(some 8), .move (.const (.bool false)), none⟩, .bool)]) <|
  .seq (.reg [(⟨(some 27), .load true 5 (.tmp 4), none⟩, .any),
      (⟨(some 28), .call k_home_New [(.tmp 27)], none⟩, .any),
      (⟨(some 26), .move (.tmp 28), none⟩, .any),
      (⟨(some 29), .extract (.tmp 26) 0, none⟩, .ptr),
      (⟨(some 30), .extract (.tmp 26) 1, none⟩, (.int .i64)),
      (⟨(some 9), .move (.tmp 29), none⟩, .ptr),
      (⟨(some 10), .move (.tmp 30), none⟩, (.int .i64))]) <|
  .seq (.seq (.reg [(⟨(some 31), .call k_wicketlaw08_awake [], none⟩, .bool),
        (⟨(some 32), .un .not (.tmp 31), none⟩, .bool)]) <|
    .cond (.tmp 32)
      (.seq (.reg [(⟨(some 8), .move (.const (.bool false)), none⟩, .bool)]) <|
      .ret)
      (.skip)) <|
  .seq (.seq (.cutn [(38, .bool)] <|
        .reg [(⟨(some 33), .move (.tmp 10), none⟩, (.int .i64)),
          (⟨(some 34), .bin .neq (.tmp 33) (.const (.int .i64 0)), none⟩, .bool),
          (⟨(some 35), .move (.tmp 34), none⟩, .bool),
          (⟨(some 36), .move (.tmp 9), some (35, false)⟩, .ptr),
          (⟨(some 37), .eqv false .ptr (.tmp 36) (.const (.pointer none)), some (35, false)⟩, .bool),
          (⟨(some 38), .pick (.tmp 35) (.const (.bool true)) (.tmp 37), none⟩, .bool)]) <|
    .cond (.tmp 38)
      (.seq (.reg [(⟨(some 39), .move (.tmp 10), none⟩, (.int .i64)),
          (⟨(some 40), .bin .eql (.tmp 39) (.const (.int .i64 3)), none⟩, .bool),
          (⟨(some 41), .move (.tmp 40), none⟩, .bool),
          (⟨(some 42), .move (.tmp 9), some (41, true)⟩, .ptr),
          (⟨(some 43), .eqv false .ptr (.tmp 42) (.const (.pointer none)), some (41, true)⟩, .bool),
          (⟨(some 44), .pick (.tmp 41) (.tmp 43) (.const (.bool false)), none⟩, .bool),
          (⟨(some 8), .move (.tmp 44), none⟩, .bool)]) <|
      .ret)
      (.skip)) <|
  .seq (.regd [(⟨0, [], false, ⟨(some 45), .move (.tmp 3), none⟩⟩, (.int .i64)),
      (⟨1, [], false, ⟨(some 46), .fieldAddr 0 (.tmp 4), none⟩⟩, .ptr),
      (⟨2, [1], false, ⟨(some 47), .load false 1 (.tmp 46), none⟩⟩, (.int .i64)),
      (⟨3, [0, 2, 1], false, ⟨(some 48), .bin .rem (.tmp 45) (.tmp 47), none⟩⟩, (.int .i64)),
      (⟨4, [], false, ⟨(some 49), .fieldAddr 0 (.tmp 4), none⟩⟩, .ptr),
      (⟨5, [4], false, ⟨(some 50), .load false 1 (.tmp 49), none⟩⟩, (.int .i64)),
      (⟨6, [3, 5, 0, 2, 1, 4], false, ⟨(some 51), .bin .add (.tmp 48) (.tmp 50), none⟩⟩, (.int .i64)),
      (⟨7, [], false, ⟨(some 52), .fieldAddr 0 (.tmp 4), none⟩⟩, .ptr),
      (⟨8, [7], false, ⟨(some 53), .load false 1 (.tmp 52), none⟩⟩, (.int .i64)),
      (⟨9, [6, 8, 3, 5, 0, 2, 1, 4, 7], false, ⟨(some 54), .bin .rem (.tmp 51) (.tmp 53), none⟩⟩, (.int .i64)),
      (⟨10, [9, 0, 1, 2, 3, 4, 5, 6, 7, 8], false, ⟨(some 11), .move (.tmp 54), none⟩⟩, (.int .i64))]) <|
  .seq (.reg [(⟨(some 55), .move (.tmp 9), none⟩, .ptr),
      (⟨(some 56), .load true 5 (.tmp 4), none⟩, .any),
      (⟨(some 57), .move (.tmp 11), none⟩, (.int .i64)),
      (⟨(some 58), .build (List.replicate 32 (.int .u8 0)) [(0, 1, (.const (.int .u8 1))), (1, 1, (.const (.int .u8 2)))], none⟩, .any),
      (⟨(some 59), .call k_home_Save [(.tmp 55), (.tmp 56), (.tmp 57), (.tmp 58)], none⟩, (.int .i64)),
      (⟨(some 12), .move (.tmp 59), none⟩, (.int .i64))]) <|
  .seq (.reg [(⟨(some 60), .move (.tmp 9), none⟩, .ptr),
      (⟨(some 61), .call k_sector_Disk_Image [(.tmp 60)], none⟩, .any),
      (⟨(some 62), .toStr (.tmp 61), none⟩, .any),
      (⟨(some 13), .move (.tmp 62), none⟩, .any)]) <|
  .seq (.reg [(⟨(some 64), .move (.tmp 9), none⟩, .ptr),
      (⟨(some 65), .load true 5 (.tmp 4), none⟩, .any),
      (⟨(some 66), .call k_home_All [(.tmp 64), (.tmp 65)], none⟩, .any),
      (⟨(some 63), .move (.tmp 66), none⟩, .any),
      (⟨(some 67), .extract (.tmp 63) 0, none⟩, .any),
      (⟨(some 68), .extract (.tmp 63) 1, none⟩, (.int .i64)),
      (⟨(some 14), .move (.tmp 67), none⟩, .any),
      (⟨(some 15), .move (.tmp 68), none⟩, (.int .i64))]) <|
  .seq (.reg [(⟨(some 69), .move (.tmp 9), none⟩, .ptr),
      (⟨(some 70), .load true 5 (.tmp 4), none⟩, .any),
      (⟨(some 71), .move (.tmp 1), none⟩, (.int .i64)),
      (⟨(some 72), .load true 32 (.tmp 6), none⟩, .any),
      (⟨(some 73), .call k_home_Save [(.tmp 69), (.tmp 70), (.tmp 71), (.tmp 72)], none⟩, (.int .i64)),
      (⟨(some 16), .move (.tmp 73), none⟩, (.int .i64))]) <|
  .seq (.reg [(⟨(some 75), .move (.tmp 9), none⟩, .ptr),
      (⟨(some 76), .load true 5 (.tmp 4), none⟩, .any),
      (⟨(some 77), .call k_home_All [(.tmp 75), (.tmp 76)], none⟩, .any),
      (⟨(some 74), .move (.tmp 77), none⟩, .any),
      (⟨(some 78), .extract (.tmp 74) 0, none⟩, .any),
      (⟨(some 79), .extract (.tmp 74) 1, none⟩, (.int .i64)),
      (⟨(some 17), .move (.tmp 78), none⟩, .any),
      (⟨(some 18), .move (.tmp 79), none⟩, (.int .i64))]) <|
  .seq (.seq (.cutn [(110, .bool)] <|
        .reg [(⟨(some 80), .move (.tmp 12), none⟩, (.int .i64)),
          (⟨(some 81), .bin .neq (.tmp 80) (.const (.int .i64 0)), none⟩, .bool),
          (⟨(some 82), .move (.tmp 81), none⟩, .bool),
          (⟨(some 83), .move (.tmp 15), some (82, false)⟩, (.int .i64)),
          (⟨(some 84), .bin .neq (.tmp 83) (.const (.int .i64 0)), some (82, false)⟩, .bool),
          (⟨(some 85), .pick (.tmp 82) (.const (.bool true)) (.tmp 84), none⟩, .bool),
          (⟨(some 86), .move (.tmp 85), none⟩, .bool),
          (⟨(some 87), .move (.tmp 18), some (86, false)⟩, (.int .i64)),
          (⟨(some 88), .bin .neq (.tmp 87) (.const (.int .i64 0)), some (86, false)⟩, .bool),
          (⟨(some 89), .pick (.tmp 86) (.const (.bool true)) (.tmp 88), none⟩, .bool),
          (⟨(some 90), .move (.tmp 89), none⟩, .bool),
          (⟨(some 91), .move (.tmp 14), some (90, false)⟩, .any),
          (⟨(some 92), .lenS (.tmp 91), some (90, false)⟩, (.int .i64)),
          (⟨(some 93), .fieldAddr 0 (.tmp 4), some (90, false)⟩, .ptr),
          (⟨(some 94), .load false 1 (.tmp 93), some (90, false)⟩, (.int .i64)),
          (⟨(some 95), .bin .neq (.tmp 92) (.tmp 94), some (90, false)⟩, .bool),
          (⟨(some 96), .pick (.tmp 90) (.const (.bool true)) (.tmp 95), none⟩, .bool),
          (⟨(some 97), .move (.tmp 96), none⟩, .bool),
          (⟨(some 98), .move (.tmp 17), some (97, false)⟩, .any),
          (⟨(some 99), .lenS (.tmp 98), some (97, false)⟩, (.int .i64)),
          (⟨(some 100), .fieldAddr 0 (.tmp 4), some (97, false)⟩, .ptr),
          (⟨(some 101), .load false 1 (.tmp 100), some (97, false)⟩, (.int .i64)),
          (⟨(some 102), .bin .neq (.tmp 99) (.tmp 101), some (97, false)⟩, .bool),
          (⟨(some 103), .pick (.tmp 97) (.const (.bool true)) (.tmp 102), none⟩, .bool),
          (⟨(some 104), .move (.tmp 103), none⟩, .bool),
          (⟨(some 105), .move (.tmp 9), some (104, false)⟩, .ptr),
          (⟨(some 106), .call k_sector_Disk_Image [(.tmp 105)], some (104, false)⟩, .any),
          (⟨(some 107), .toStr (.tmp 106), some (104, false)⟩, .any),
          (⟨(some 108), .move (.tmp 13), some (104, false)⟩, .any),
          (⟨(some 109), .bins .neq (.tmp 107) (.tmp 108), some (104, false)⟩, .bool),
          (⟨(some 110), .pick (.tmp 104) (.const (.bool true)) (.tmp 109), none⟩, .bool)]) <|
    .cond (.tmp 110)
      (.seq (.reg [(⟨(some 8), .move (.const (.bool false)), none⟩, .bool)]) <|
      .ret)
      (.skip)) <|
  .seq (.cutn [(19, .bool)] <|
      .reg [(⟨(some 111), .move (.tmp 1), none⟩, (.int .i64)),
        (⟨(some 112), .bin .geq (.tmp 111) (.const (.int .i64 0)), none⟩, .bool),
        (⟨(some 113), .move (.tmp 112), none⟩, .bool),
        (⟨(some 114), .move (.tmp 1), some (113, true)⟩, (.int .i64)),
        (⟨(some 115), .fieldAddr 0 (.tmp 4), some (113, true)⟩, .ptr),
        (⟨(some 116), .load false 1 (.tmp 115), some (113, true)⟩, (.int .i64)),
        (⟨(some 117), .bin .lss (.tmp 114) (.tmp 116), some (113, true)⟩, .bool),
        (⟨(some 118), .pick (.tmp 113) (.tmp 117) (.const (.bool false)), none⟩, .bool),
        (⟨(some 19), .move (.tmp 118), none⟩, .bool)]) <|
  .seq (.seq (.cutn [(138, .bool)] <|
        .reg [(⟨(some 119), .move (.tmp 16), none⟩, (.int .i64)),
          (⟨(some 120), .bin .eql (.tmp 119) (.const (.int .i64 0)), none⟩, .bool),
          (⟨(some 121), .move (.tmp 19), none⟩, .bool),
          (⟨(some 122), .eqv true .bool (.tmp 120) (.tmp 121), none⟩, .bool),
          (⟨(some 123), .move (.tmp 122), none⟩, .bool),
          (⟨(some 124), .move (.tmp 9), some (123, false)⟩, .ptr),
          (⟨(some 125), .call k_sector_Disk_Waiting [(.tmp 124)], some (123, false)⟩, .any),
          (⟨(some 126), .lenS (.tmp 125), some (123, false)⟩, (.int .i64)),
          (⟨(some 127), .bin .gtr (.tmp 126) (.const (.int .i64 2)), some (123, false)⟩, .bool),
          (⟨(some 128), .pick (.tmp 123) (.const (.bool true)) (.tmp 127), none⟩, .bool),
          (⟨(some 129), .move (.tmp 128), none⟩, .bool),
          (⟨(some 130), .move (.tmp 19), some (129, false)⟩, .bool),
          (⟨(some 131), .un .not (.tmp 130), some (129, false)⟩, .bool),
          (⟨(some 132), .move (.tmp 131), some (129, false)⟩, .bool),
          (⟨(some 133), .move (.tmp 9), some (132, true)⟩, .ptr),
          (⟨(some 134), .call k_sector_Disk_Waiting [(.tmp 133)], some (132, true)⟩, .any),
          (⟨(some 135), .lenS (.tmp 134), some (132, true)⟩, (.int .i64)),
          (⟨(some 136), .bin .neq (.tmp 135) (.const (.int .i64 1)), some (132, true)⟩, .bool),
          (⟨(some 137), .pick (.tmp 132) (.tmp 136) (.const (.bool false)), some (129, false)⟩, .bool),
          (⟨(some 138), .pick (.tmp 129) (.const (.bool true)) (.tmp 137), none⟩, .bool)]) <|
    .cond (.tmp 138)
      (.seq (.reg [(⟨(some 8), .move (.const (.bool false)), none⟩, .bool)]) <|
      .ret)
      (.skip)) <|
  .seq (.cut [] <|
      .seq (.reg [(⟨(some 20), .move (.const (.int .i64 0)), none⟩, (.int .i64))]) <|
      .block 0 <|
        .loop [(20, (.int .i64))] <|
          .seq (.seq (.reg [(⟨(some 139), .move (.tmp 20), none⟩, (.int .i64)),
                (⟨(some 140), .fieldAddr 0 (.tmp 4), none⟩, .ptr),
                (⟨(some 141), .load false 1 (.tmp 140), none⟩, (.int .i64)),
                (⟨(some 142), .bin .lss (.tmp 139) (.tmp 141), none⟩, .bool)]) <|
            .cond (.tmp 142)
              (.skip)
              (.exit 0)) <|
          .seq (.block 1 <|
              .seq (.reg [(⟨(some 145), .move (.tmp 14), none⟩, .any),
                  (⟨(some 146), .move (.tmp 20), none⟩, (.int .i64)),
                  (⟨(some 147), .idxSlice 32 (.tmp 145) (.tmp 146), none⟩, .ptr),
                  (⟨(some 148), .load true 32 (.tmp 147), none⟩, .any),
                  (⟨(some 21), .alloc (List.replicate 32 (.int .u8 0)), none⟩, .ptr),
                  (⟨none, .store 32 (.tmp 21) (.tmp 148), none⟩, .any)]) <|
              .seq (.cutn [] <|
                  .seq (.reg [(⟨(some 149), .move (.tmp 20), none⟩, (.int .i64)),
                      (⟨(some 150), .move (.tmp 1), none⟩, (.int .i64)),
                      (⟨(some 151), .bin .eql (.tmp 149) (.tmp 150), none⟩, .bool)]) <|
                  .cond (.tmp 151)
                    (.reg [(⟨(some 152), .load true 32 (.tmp 6), none⟩, .any),
                      (⟨none, .store 32 (.tmp 21) (.tmp 152), none⟩, .any)])
                    (.skip)) <|
              .seq (.regd [(⟨0, [], false, ⟨(some 153), .move (.tmp 17), none⟩⟩, .any),
                  (⟨1, [], false, ⟨(some 154), .move (.tmp 20), none⟩⟩, (.int .i64)),
                  (⟨2, [0, 1], false, ⟨(some 155), .idxSlice 32 (.tmp 153) (.tmp 154), none⟩⟩, .ptr),
                  (⟨3, [2, 0, 1], false, ⟨(some 156), .load true 32 (.tmp 155), none⟩⟩, .any),
                  (⟨4, [], false, ⟨(some 157), .load true 32 (.tmp 21), none⟩⟩, .any),
                  (⟨5, [3, 4, 2, 0, 1], false, ⟨(some 158), .eqv true (.agg (List.replicate 32 false)) (.tmp 156) (.tmp 157), none⟩⟩, .bool)]) <|
              .cond (.tmp 158)
                (.seq (.reg [(⟨(some 8), .move (.const (.bool false)), none⟩, .bool)]) <|
                .ret)
                (.skip)) <|
          .reg [(⟨(some 143), .move (.tmp 20), none⟩, (.int .i64)),
            (⟨(some 144), .bin .add (.tmp 143) (.const (.int .i64 1)), none⟩, (.int .i64)),
            (⟨(some 20), .move (.tmp 144), none⟩, (.int .i64))]) <|
  .seq (.reg [(⟨(some 160), .move (.tmp 9), none⟩, .ptr),
      (⟨(some 161), .call k_sector_Disk_Flush [(.tmp 160)], none⟩, .any),
      (⟨(some 159), .move (.tmp 161), none⟩, .any),
      (⟨(some 162), .extract (.tmp 159) 0, none⟩, (.int .i64)),
      (⟨(some 163), .extract (.tmp 159) 1, none⟩, (.int .i64)),
      (⟨(some 22), .move (.tmp 162), none⟩, (.int .i64)),
      (⟨(some 23), .move (.tmp 163), none⟩, (.int .i64))]) <|
  .seq (.reg [(⟨(some 165), .move (.tmp 9), none⟩, .ptr),
      (⟨(some 166), .load true 5 (.tmp 4), none⟩, .any),
      (⟨(some 167), .call k_home_All [(.tmp 165), (.tmp 166)], none⟩, .any),
      (⟨(some 164), .move (.tmp 167), none⟩, .any),
      (⟨(some 168), .extract (.tmp 164) 0, none⟩, .any),
      (⟨(some 169), .extract (.tmp 164) 1, none⟩, (.int .i64)),
      (⟨(some 24), .move (.tmp 168), none⟩, .any),
      (⟨(some 25), .move (.tmp 169), none⟩, (.int .i64))]) <|
  .seq (.reg [(⟨(some 170), .move (.tmp 23), none⟩, (.int .i64)),
      (⟨(some 171), .bin .eql (.tmp 170) (.const (.int .i64 0)), none⟩, .bool),
      (⟨(some 172), .move (.tmp 171), none⟩, .bool),
      (⟨(some 173), .move (.tmp 25), some (172, true)⟩, (.int .i64)),
      (⟨(some 174), .bin .eql (.tmp 173) (.const (.int .i64 0)), some (172, true)⟩, .bool),
      (⟨(some 175), .pick (.tmp 172) (.tmp 174) (.const (.bool false)), none⟩, .bool),
      (⟨(some 176), .move (.tmp 175), none⟩, .bool),
      (⟨(some 177), .move (.tmp 24), some (176, true)⟩, .any),
      (⟨(some 178), .move (.tmp 17), some (176, true)⟩, .any),
      (⟨(some 179), .call k_wicketref08_Same [(.tmp 177), (.tmp 178)], some (176, true)⟩, .bool),
      (⟨(some 180), .pick (.tmp 176) (.tmp 179) (.const (.bool false)), none⟩, .bool),
      (⟨(some 8), .move (.tmp 180), none⟩, .bool)]) <|
  .ret
def f_wicketlaw08_HomeKeeps_L51 (n : Nat) (h : Heap) (u1 : Int) (h0 : Heap) (p15 : ((Value × Int × Unit) × Heap)) (p20 : ((Value × Int × Unit) × Heap)) (v37 : Int) (h38 : Heap) : Option (((Int × Unit) × Heap) ⊕ (((Unit) × Heap) ⊕ ((Bool × Unit) × Heap))) :=
  (ldT (.int .i64) h38 (some (fa (nwA h) 0))).bind fun x39 =>
  bif (decide (v37 < x39)) then
    ((ixB 32 p15.1.1 v37).bind fun q40 =>
    (ldA 32 h38 (some q40)).bind fun cs41 =>
    bnd ((Heap.new h38 (.cells (List.replicate 32 (.int .u8 0)) false 0))) fun h42 =>
    (stB 32 (.agg ⟨cs41⟩) h42 (some (nwA h38))).bind fun h43 =>
    ((bif (decide (v37 = u1)) then
        ((ldA 32 h43 (some (nwA h0))).bind fun cs44 =>
        (stB 32 (.agg ⟨cs44⟩) h43 (some (nwA h38))).bind fun h45 =>
        some ((), h45))
      else
        (some ((), h43))) : Option ((Unit) × Heap)).bind fun a46 =>
    (ixB 32 p20.1.1 v37).bind fun q47 =>
    (ldA 32 a46.2 (some q47)).bind fun cs48 =>
    (ldA 32 a46.2 (some (nwA h38))).bind fun cs49 =>
    (eqVals a46.2 (.agg (List.replicate 32 false)) (.agg ⟨cs48⟩) (.agg ⟨cs49⟩)).bind fun b50 =>
    bif (!b50) then
      (some (.inr (.inr ((false, ()), a46.2))))
    else
      (some (.inl (((IntKind.i64.wrap (v37 + 1)), ()), a46.2))))
  else
    (some (.inr (.inl ((), h38))))
def f_wicketlaw08_HomeKeeps_C52 (n : Nat) (h : Heap) (u1 : Int) (h0 : Heap) (p15 : ((Value × Int × Unit) × Heap)) (p20 : ((Value × Int × Unit) × Heap)) (h36 : Heap) : Option (((Unit) × Heap) ⊕ ((Bool × Unit) × Heap)) :=
  loopT (fun a => f_wicketlaw08_HomeKeeps_L51 n h u1 h0 p15 p20 a.1.1 a.2) n ((0, ()), h36)
noncomputable def sf_wicketlaw08_HomeKeeps (n : Nat) : Sf := sfOf [(k_home_New, s_home_New n), (k_wicketlaw08_awake, s_wicketlaw08_awake n), (k_home_Save, s_home_Save n), (k_sector_Disk_Image, s_sector_Disk_Image n), (k_home_All, s_home_All n), (k_sector_Disk_Waiting, s_sector_Disk_Waiting n), (k_sector_Disk_Flush, s_sector_Disk_Flush n), (k_wicketref08_Same, s_wicketref08_Same n)]
noncomputable def it_wicketlaw08_HomeKeeps (n : Nat) : It := itOf []
def f_wicketlaw08_HomeKeeps (n : Nat) (u0 : Value) (u1 : Int) (u2 : Value) (u3 : Int) (h : Heap) : Option ((Bool × Unit) × Heap) :=
  bif (cellsOf u0).all isCell then
    (bnd ((Heap.new h (.cells (cellsOf u0) false 0))) fun h0 =>
    bif (cellsOf u2).all isCell then
      (bnd ((Heap.new h0 (.cells (cellsOf u2) false 0))) fun h1 =>
      (ldA 5 h1 (some (nwA h))).bind fun cs2 =>
      (f_home_New n (.agg ⟨cs2⟩) h1).bind fun p3 =>
      (f_wicketlaw08_awake n p3.2).bind fun p4 =>
      bif (!p4.1.1) then
        (some ((false, ()), p4.2))
      else
        (((bif (!decide (p3.1.2.1 = 0)) then
            (some ((true, ()), p4.2))
          else
            (some (((Option.isNone p3.1.1), ()), p4.2))) : Option ((Bool × Unit) × Heap)).bind fun a5 =>
        bif a5.1.1 then
          (bif (decide (p3.1.2.1 = 3)) then
            (some (((Option.isNone p3.1.1), ()), a5.2))
          else
            (some ((false, ()), a5.2)))
        else
          ((ldT (.int .i64) a5.2 (some (fa (nwA h) 0))).bind fun x6 =>
          bif decide (x6 = 0) then
            (none)
          else
            ((ldT (.int .i64) a5.2 (some (fa (nwA h) 0))).bind fun x7 =>
            (ldT (.int .i64) a5.2 (some (fa (nwA h) 0))).bind fun x8 =>
            bif decide (x8 = 0) then
              (none)
            else
              ((ldA 5 a5.2 (some (nwA h))).bind fun cs9 =>
              (fillL (List.replicate 32 (.int .u8 0)) [(0, 1, (.int .u8 1)), (1, 1, (.int .u8 2))]).bind fun cs10 =>
              (f_home_Save n p3.1.1 (.agg ⟨cs9⟩) (Int.tmod (IntKind.i64.wrap ((Int.tmod u3 x6) + x7)) x8) (.agg ⟨cs10⟩) a5.2).bind fun p11 =>
              (f_sector_Disk_Image n p3.1.1 p11.2).bind fun p12 =>
              (toStrK p12.2 p12.1.1).bind fun p13 =>
              (ldA 5 p12.2 (some (nwA h))).bind fun cs14 =>
              (f_home_All n p3.1.1 (.agg ⟨cs14⟩) p12.2).bind fun p15 =>
              (ldA 5 p15.2 (some (nwA h))).bind fun cs16 =>
              (ldA 32 p15.2 (some (nwA h0))).bind fun cs17 =>
              (f_home_Save n p3.1.1 (.agg ⟨cs16⟩) u1 (.agg ⟨cs17⟩) p15.2).bind fun p18 =>
              (ldA 5 p18.2 (some (nwA h))).bind fun cs19 =>
              (f_home_All n p3.1.1 (.agg ⟨cs19⟩) p18.2).bind fun p20 =>
              ((bif (!decide (p11.1.1 = 0)) then
                  (some ((true, ()), p20.2))
                else
                  (bif (!decide (p15.1.2.1 = 0)) then
                    (some ((true, ()), p20.2))
                  else
                    (bif (!decide (p20.1.2.1 = 0)) then
                      (some ((true, ()), p20.2))
                    else
                      ((lenB p15.1.1).bind fun n21 =>
                      (ldT (.int .i64) p20.2 (some (fa (nwA h) 0))).bind fun x22 =>
                      bif (!decide ((n21 : Int) = x22)) then
                        (some ((true, ()), p20.2))
                      else
                        ((lenB p20.1.1).bind fun n23 =>
                        (ldT (.int .i64) p20.2 (some (fa (nwA h) 0))).bind fun x24 =>
                        bif (!decide ((n23 : Int) = x24)) then
                          (some ((true, ()), p20.2))
                        else
                          ((f_sector_Disk_Image n p3.1.1 p20.2).bind fun p25 =>
                          (toStrK p25.2 p25.1.1).bind fun p26 =>
                          (binsT .bool p25.2 .neq p26.1 p13.1).bind fun x27 =>
                          some ((x27, ()), p25.2))))))) : Option ((Bool × Unit) × Heap)).bind fun a28 =>
              bif a28.1.1 then
                (some ((false, ()), a28.2))
              else
                (((bif (decide (0 ≤ u1)) then
                    ((ldT (.int .i64) a28.2 (some (fa (nwA h) 0))).bind fun x29 =>
                    some (((decide (u1 < x29)), ()), a28.2))
                  else
                    (some ((false, ()), a28.2))) : Option ((Bool × Unit) × Heap)).bind fun a30 =>
                ((bif (!((decide (p18.1.1 = 0)) == a30.1.1)) then
                    (some ((true, ()), a30.2))
                  else
                    ((f_sector_Disk_Waiting n p3.1.1 a30.2).bind fun p31 =>
                    (lenB p31.1.1).bind fun n32 =>
                    bif (decide (2 < (n32 : Int))) then
                      (some ((true, ()), p31.2))
                    else
                      (bif (!a30.1.1) then
                        ((f_sector_Disk_Waiting n p3.1.1 p31.2).bind fun p33 =>
                        (lenB p33.1.1).bind fun n34 =>
                        some (((!decide ((n34 : Int) = 1)), ()), p33.2))
                      else
                        (some ((false, ()), p31.2))))) : Option ((Bool × Unit) × Heap)).bind fun a35 =>
                bif a35.1.1 then
                  (some ((false, ()), a35.2))
                else
                  (thenB (f_wicketlaw08_HomeKeeps_C52 n h u1 h0 p15 p20 (a35.2)) fun a53 =>
                  (f_sector_Disk_Flush n p3.1.1 a53.2).bind fun p54 =>
                  (ldA 5 p54.2 (some (nwA h))).bind fun cs55 =>
                  (f_home_All n p3.1.1 (.agg ⟨cs55⟩) p54.2).bind fun p56 =>
                  bif (decide (p54.1.2.1 = 0)) then
                    (bif (decide (p56.1.2.1 = 0)) then
                      ((f_wicketref08_Same n p56.1.1 p20.1.1 p56.2).bind fun p57 =>
                      some ((p57.1.1, ()), p57.2))
                    else
                      (some ((false, ()), p56.2)))
                  else
                    (some ((false, ()), p56.2)))))))))
    else
      (none))
  else
    (none)
def rs_wicketlaw08_HomeKeeps : Rs := [(.tmp 8, .bool)]
def ps_wicketlaw08_HomeKeeps : List Ty := [.any, (.int .i64), .any, (.int .i64)]
theorem e_wicketlaw08_HomeKeeps (n : Nat) (u0 : Value) (u1 : Int) (u2 : Value) (u3 : Int) (h : Heap) : f_wicketlaw08_HomeKeeps n u0 u1 u2 u3 h = fB (sf_wicketlaw08_HomeKeeps n) (it_wicketlaw08_HomeKeeps n) n c2_wicketlaw08_HomeKeeps rs_wicketlaw08_HomeKeeps ps_wicketlaw08_HomeKeeps (u0, (u1, (u2, (u3, ())))) h := by kernel_rfl
noncomputable def s_wicketlaw08_HomeKeeps (n : Nat) : Sf1 := mkSf ps_wicketlaw08_HomeKeeps rs_wicketlaw08_HomeKeeps fun a h => f_wicketlaw08_HomeKeeps n a.1 a.2.1 a.2.2.1 a.2.2.2.1 h

/-- The table holds these. -/
structure LfT (T : Nat → Option AFun) : Prop where
  t_wicketlaw08_awake : PrimT_wicketlaw08_awake T
  t_sector_Disk_Image : T k_sector_Disk_Image = some ⟨List.map (·.1) rs_sector_Disk_Image, C2.erase c2_sector_Disk_Image, none⟩
  t_sector_Disk_Flush : T k_sector_Disk_Flush = some ⟨List.map (·.1) rs_sector_Disk_Flush, C2.erase c2_sector_Disk_Flush, none⟩
  t_wicketref08_Same : T k_wicketref08_Same = some ⟨List.map (·.1) rs_wicketref08_Same, C2.erase c2_wicketref08_Same, none⟩
  t_octet_Join : T k_octet_Join = some ⟨List.map (·.1) rs_octet_Join, C2.erase c2_octet_Join, none⟩
  t_sector_Load : T k_sector_Load = some ⟨List.map (·.1) rs_sector_Load, C2.erase c2_sector_Load, none⟩
  t_wicketlaw08_small : T k_wicketlaw08_small = some ⟨List.map (·.1) rs_wicketlaw08_small, C2.erase c2_wicketlaw08_small, none⟩
  t_sector_Disk_Len : T k_sector_Disk_Len = some ⟨List.map (·.1) rs_sector_Disk_Len, C2.erase c2_sector_Disk_Len, none⟩
  t_slices_Clone_byte_byte : T k_slices_Clone_byte_byte = some ⟨List.map (·.1) rs_slices_Clone_byte_byte, C2.erase c2_slices_Clone_byte_byte, none⟩
  t_octet_Pad : T k_octet_Pad = some ⟨List.map (·.1) rs_octet_Pad, C2.erase c2_octet_Pad, none⟩
  t_home_block : T k_home_block = some ⟨List.map (·.1) rs_home_block, C2.erase c2_home_block, none⟩
  t_sector_Disk_asked : T k_sector_Disk_asked = some ⟨List.map (·.1) rs_sector_Disk_asked, C2.erase c2_sector_Disk_asked, none⟩
  t_octet_may : T k_octet_may = some ⟨List.map (·.1) rs_octet_may, C2.erase c2_octet_may, none⟩
  t_sum_push : T k_sum_push = some ⟨List.map (·.1) rs_sum_push, C2.erase c2_sum_push, none⟩
  t_super_within : T k_super_within = some ⟨List.map (·.1) rs_super_within, C2.erase c2_super_within, none⟩
  t_slices_Backward_sector_waiting_sector_waiting_1 : T k_slices_Backward_sector_waiting_sector_waiting_1 = some ⟨[], C2.erase c2_slices_Backward_sector_waiting_sector_waiting_1, none⟩
  t_sector_Disk_Waiting : T k_sector_Disk_Waiting = some ⟨List.map (·.1) rs_sector_Disk_Waiting, C2.erase c2_sector_Disk_Waiting, none⟩
  t_sector_Disk_Write : T k_sector_Disk_Write = some ⟨List.map (·.1) rs_sector_Disk_Write, C2.erase c2_sector_Disk_Write, none⟩
  t_octet_Put : T k_octet_Put = some ⟨List.map (·.1) rs_octet_Put, C2.erase c2_octet_Put, none⟩
  t_sum_Of : T k_sum_Of = some ⟨List.map (·.1) rs_sum_Of, C2.erase c2_sum_Of, none⟩
  t_super_Config : T k_super_Config = some ⟨List.map (·.1) rs_super_Config, C2.erase c2_super_Config, none⟩
  t_slices_Backward_sector_waiting_sector_waiting : T k_slices_Backward_sector_waiting_sector_waiting = some ⟨List.map (·.1) rs_slices_Backward_sector_waiting_sector_waiting, C2.erase c2_slices_Backward_sector_waiting_sector_waiting, none⟩
  t_home_Encode : T k_home_Encode = some ⟨List.map (·.1) rs_home_Encode, C2.erase c2_home_Encode, none⟩
  t_home_Decode : T k_home_Decode = some ⟨List.map (·.1) rs_home_Decode, C2.erase c2_home_Decode, none⟩
  t_home_fits : T k_home_fits = some ⟨List.map (·.1) rs_home_fits, C2.erase c2_home_fits, none⟩
  t_super_Check : T k_super_Check = some ⟨List.map (·.1) rs_super_Check, C2.erase c2_super_Check, none⟩
  t_sector_Disk_Read : T k_sector_Disk_Read = some ⟨List.map (·.1) rs_sector_Disk_Read, C2.erase c2_sector_Disk_Read, none⟩
  t_super_Encode : T k_super_Encode = some ⟨List.map (·.1) rs_super_Encode, C2.erase c2_super_Encode, none⟩
  t_home_has : T k_home_has = some ⟨List.map (·.1) rs_home_has, C2.erase c2_home_has, none⟩
  t_home_New : T k_home_New = some ⟨List.map (·.1) rs_home_New, C2.erase c2_home_New, none⟩
  t_home_Save : T k_home_Save = some ⟨List.map (·.1) rs_home_Save, C2.erase c2_home_Save, none⟩
  t_home_Load : T k_home_Load = some ⟨List.map (·.1) rs_home_Load, C2.erase c2_home_Load, none⟩
  t_home_All : T k_home_All = some ⟨List.map (·.1) rs_home_All, C2.erase c2_home_All, none⟩
  t_wicketlaw08_HomeKeeps : T k_wicketlaw08_HomeKeeps = some ⟨List.map (·.1) rs_wicketlaw08_HomeKeeps, C2.erase c2_wicketlaw08_HomeKeeps, none⟩
variable {T : Nat → Option AFun}
theorem ok_wicketlaw08_awake (hT : LfT T) (n : Nat) : Sf1Ok T k_wicketlaw08_awake (s_wicketlaw08_awake n) := primOk_wicketlaw08_awake hT.t_wicketlaw08_awake n
theorem ok_sector_Disk_Image (hT : LfT T) (n : Nat) : Sf1Ok T k_sector_Disk_Image (s_sector_Disk_Image n) := mkSf_ok (sf := sf_sector_Disk_Image n) (it := it_sector_Disk_Image n) (n := n) hT.t_sector_Disk_Image sfOk_nil itOk_nil fun a h => e_sector_Disk_Image n a.1 h
theorem ok_sector_Disk_Flush (hT : LfT T) (n : Nat) : Sf1Ok T k_sector_Disk_Flush (s_sector_Disk_Flush n) := mkSf_ok (sf := sf_sector_Disk_Flush n) (it := it_sector_Disk_Flush n) (n := n) hT.t_sector_Disk_Flush sfOk_nil itOk_nil fun a h => e_sector_Disk_Flush n a.1 h
theorem ok_wicketref08_Same (hT : LfT T) (n : Nat) : Sf1Ok T k_wicketref08_Same (s_wicketref08_Same n) := mkSf_ok (sf := sf_wicketref08_Same n) (it := it_wicketref08_Same n) (n := n) hT.t_wicketref08_Same sfOk_nil itOk_nil fun a h => e_wicketref08_Same n a.1 a.2.1 h
theorem ok_octet_Join (hT : LfT T) (n : Nat) : Sf1Ok T k_octet_Join (s_octet_Join n) := mkSf_ok (sf := sf_octet_Join n) (it := it_octet_Join n) (n := n) hT.t_octet_Join sfOk_nil itOk_nil fun a h => e_octet_Join n a.1 h
theorem ok_sector_Load (hT : LfT T) (n : Nat) : Sf1Ok T k_sector_Load (s_sector_Load n) := mkSf_ok (sf := sf_sector_Load n) (it := it_sector_Load n) (n := n) hT.t_sector_Load sfOk_nil itOk_nil fun a h => e_sector_Load n a.1 h
theorem ok_wicketlaw08_small (hT : LfT T) (n : Nat) : Sf1Ok T k_wicketlaw08_small (s_wicketlaw08_small n) := mkSf_ok (sf := sf_wicketlaw08_small n) (it := it_wicketlaw08_small n) (n := n) hT.t_wicketlaw08_small sfOk_nil itOk_nil fun a h => e_wicketlaw08_small n h
theorem ok_sector_Disk_Len (hT : LfT T) (n : Nat) : Sf1Ok T k_sector_Disk_Len (s_sector_Disk_Len n) := mkSf_ok (sf := sf_sector_Disk_Len n) (it := it_sector_Disk_Len n) (n := n) hT.t_sector_Disk_Len sfOk_nil itOk_nil fun a h => e_sector_Disk_Len n a.1 h
theorem ok_slices_Clone_byte_byte (hT : LfT T) (n : Nat) : Sf1Ok T k_slices_Clone_byte_byte (s_slices_Clone_byte_byte n) := mkSf_ok (sf := sf_slices_Clone_byte_byte n) (it := it_slices_Clone_byte_byte n) (n := n) hT.t_slices_Clone_byte_byte sfOk_nil itOk_nil fun a h => e_slices_Clone_byte_byte n a.1 h
theorem ok_octet_Pad (hT : LfT T) (n : Nat) : Sf1Ok T k_octet_Pad (s_octet_Pad n) := mkSf_ok (sf := sf_octet_Pad n) (it := it_octet_Pad n) (n := n) hT.t_octet_Pad (sfOk_cons (ok_octet_Join hT n) sfOk_nil) itOk_nil fun a h => e_octet_Pad n a.1 a.2.1 h
theorem ok_home_block (hT : LfT T) (n : Nat) : Sf1Ok T k_home_block (s_home_block n) := mkSf_ok (sf := sf_home_block n) (it := it_home_block n) (n := n) hT.t_home_block sfOk_nil itOk_nil fun a h => e_home_block n a.1 h
theorem ok_sector_Disk_asked (hT : LfT T) (n : Nat) : Sf1Ok T k_sector_Disk_asked (s_sector_Disk_asked n) := mkSf_ok (sf := sf_sector_Disk_asked n) (it := it_sector_Disk_asked n) (n := n) hT.t_sector_Disk_asked sfOk_nil itOk_nil fun a h => e_sector_Disk_asked n a.1 a.2.1 h
theorem ok_octet_may (hT : LfT T) (n : Nat) : Sf1Ok T k_octet_may (s_octet_may n) := mkSf_ok (sf := sf_octet_may n) (it := it_octet_may n) (n := n) hT.t_octet_may sfOk_nil itOk_nil fun a h => e_octet_may n a.1 h
theorem ok_sum_push (hT : LfT T) (n : Nat) : Sf1Ok T k_sum_push (s_sum_push n) := mkSf_ok (sf := sf_sum_push n) (it := it_sum_push n) (n := n) hT.t_sum_push sfOk_nil itOk_nil fun a h => e_sum_push n a.1 a.2.1 h
theorem ok_super_within (hT : LfT T) (n : Nat) : Sf1Ok T k_super_within (s_super_within n) := mkSf_ok (sf := sf_super_within n) (it := it_super_within n) (n := n) hT.t_super_within sfOk_nil itOk_nil fun a h => e_super_within n a.1 a.2.1 h
theorem ok_slices_Backward_sector_waiting_sector_waiting_1 (hT : LfT T) (n : Nat) : It1Ok T k_slices_Backward_sector_waiting_sector_waiting_1 (i_slices_Backward_sector_waiting_sector_waiting_1 n) := mkIt_ok (sf := sf_slices_Backward_sector_waiting_sector_waiting_1 n) (it := it_slices_Backward_sector_waiting_sector_waiting_1 n) (n := n) hT.t_slices_Backward_sector_waiting_sector_waiting_1 sfOk_nil itOk_nil fun V hp up y a1 a2 v => e_slices_Backward_sector_waiting_sector_waiting_1 hp up y n a2.1 v
theorem ok_sector_Disk_Waiting (hT : LfT T) (n : Nat) : Sf1Ok T k_sector_Disk_Waiting (s_sector_Disk_Waiting n) := mkSf_ok (sf := sf_sector_Disk_Waiting n) (it := it_sector_Disk_Waiting n) (n := n) hT.t_sector_Disk_Waiting (sfOk_cons (ok_slices_Clone_byte_byte hT n) sfOk_nil) itOk_nil fun a h => e_sector_Disk_Waiting n a.1 h
theorem ok_sector_Disk_Write (hT : LfT T) (n : Nat) : Sf1Ok T k_sector_Disk_Write (s_sector_Disk_Write n) := mkSf_ok (sf := sf_sector_Disk_Write n) (it := it_sector_Disk_Write n) (n := n) hT.t_sector_Disk_Write (sfOk_cons (ok_sector_Disk_asked hT n) sfOk_nil) itOk_nil fun a h => e_sector_Disk_Write n a.1 a.2.1 a.2.2.1 h
theorem ok_octet_Put (hT : LfT T) (n : Nat) : Sf1Ok T k_octet_Put (s_octet_Put n) := mkSf_ok (sf := sf_octet_Put n) (it := it_octet_Put n) (n := n) hT.t_octet_Put (sfOk_cons (ok_octet_may hT n) sfOk_nil) itOk_nil fun a h => e_octet_Put n a.1 a.2.1 h
theorem ok_sum_Of (hT : LfT T) (n : Nat) : Sf1Ok T k_sum_Of (s_sum_Of n) := mkSf_ok (sf := sf_sum_Of n) (it := it_sum_Of n) (n := n) hT.t_sum_Of (sfOk_cons (ok_sum_push hT n) sfOk_nil) itOk_nil fun a h => e_sum_Of n a.1 h
theorem ok_super_Config (hT : LfT T) (n : Nat) : Sf1Ok T k_super_Config (s_super_Config n) := mkSf_ok (sf := sf_super_Config n) (it := it_super_Config n) (n := n) hT.t_super_Config (sfOk_cons (ok_super_within hT n) sfOk_nil) itOk_nil fun a h => e_super_Config n a.1 h
theorem ok_slices_Backward_sector_waiting_sector_waiting (hT : LfT T) (n : Nat) : Sf1Ok T k_slices_Backward_sector_waiting_sector_waiting (s_slices_Backward_sector_waiting_sector_waiting n) := mkSf_ok (sf := sf_slices_Backward_sector_waiting_sector_waiting n) (it := it_slices_Backward_sector_waiting_sector_waiting n) (n := n) hT.t_slices_Backward_sector_waiting_sector_waiting sfOk_nil itOk_nil fun a h => e_slices_Backward_sector_waiting_sector_waiting n a.1 h
theorem ok_home_Encode (hT : LfT T) (n : Nat) : Sf1Ok T k_home_Encode (s_home_Encode n) := mkSf_ok (sf := sf_home_Encode n) (it := it_home_Encode n) (n := n) hT.t_home_Encode (sfOk_cons (ok_home_block hT n) (sfOk_cons (ok_octet_Join hT n) (sfOk_cons (ok_sum_Of hT n) (sfOk_cons (ok_octet_Put hT n) sfOk_nil)))) itOk_nil fun a h => e_home_Encode n a.1 a.2.1 h
theorem ok_home_Decode (hT : LfT T) (n : Nat) : Sf1Ok T k_home_Decode (s_home_Decode n) := mkSf_ok (sf := sf_home_Decode n) (it := it_home_Decode n) (n := n) hT.t_home_Decode (sfOk_cons (ok_home_block hT n) (sfOk_cons (ok_home_Encode hT n) sfOk_nil)) itOk_nil fun a h => e_home_Decode n a.1 a.2.1 h
theorem ok_home_fits (hT : LfT T) (n : Nat) : Sf1Ok T k_home_fits (s_home_fits n) := mkSf_ok (sf := sf_home_fits n) (it := it_home_fits n) (n := n) hT.t_home_fits (sfOk_cons (ok_super_Config hT n) (sfOk_cons (ok_sector_Disk_Len hT n) sfOk_nil)) itOk_nil fun a h => e_home_fits n a.1 a.2.1 h
theorem ok_super_Check (hT : LfT T) (n : Nat) : Sf1Ok T k_super_Check (s_super_Check n) := mkSf_ok (sf := sf_super_Check n) (it := it_super_Check n) (n := n) hT.t_super_Check (sfOk_cons (ok_super_Config hT n) sfOk_nil) itOk_nil fun a h => e_super_Check n a.1 h
theorem ok_sector_Disk_Read (hT : LfT T) (n : Nat) : Sf1Ok T k_sector_Disk_Read (s_sector_Disk_Read n) := mkSf_ok (sf := sf_sector_Disk_Read n) (it := it_sector_Disk_Read n) (n := n) hT.t_sector_Disk_Read (sfOk_cons (ok_sector_Disk_asked hT n) (sfOk_cons (ok_slices_Backward_sector_waiting_sector_waiting hT n) (sfOk_cons (ok_slices_Clone_byte_byte hT n) sfOk_nil))) (itOk_cons (ok_slices_Backward_sector_waiting_sector_waiting_1 hT n) itOk_nil) fun a h => e_sector_Disk_Read n a.1 a.2.1 h
theorem ok_super_Encode (hT : LfT T) (n : Nat) : Sf1Ok T k_super_Encode (s_super_Encode n) := mkSf_ok (sf := sf_super_Encode n) (it := it_super_Encode n) (n := n) hT.t_super_Encode (sfOk_cons (ok_super_Check hT n) (sfOk_cons (ok_octet_Put hT n) (sfOk_cons (ok_octet_Pad hT n) (sfOk_cons (ok_sum_Of hT n) sfOk_nil)))) itOk_nil fun a h => e_super_Encode n a.1 h
theorem ok_home_has (hT : LfT T) (n : Nat) : Sf1Ok T k_home_has (s_home_has n) := mkSf_ok (sf := sf_home_has n) (it := it_home_has n) (n := n) hT.t_home_has (sfOk_cons (ok_home_fits hT n) sfOk_nil) itOk_nil fun a h => e_home_has n a.1 a.2.1 a.2.2.1 h
theorem ok_home_New (hT : LfT T) (n : Nat) : Sf1Ok T k_home_New (s_home_New n) := mkSf_ok (sf := sf_home_New n) (it := it_home_New n) (n := n) hT.t_home_New (sfOk_cons (ok_super_Encode hT n) (sfOk_cons (ok_home_Encode hT n) (sfOk_cons (ok_octet_Join hT n) (sfOk_cons (ok_sector_Load hT n) sfOk_nil)))) itOk_nil fun a h => e_home_New n a.1 h
theorem ok_home_Save (hT : LfT T) (n : Nat) : Sf1Ok T k_home_Save (s_home_Save n) := mkSf_ok (sf := sf_home_Save n) (it := it_home_Save n) (n := n) hT.t_home_Save (sfOk_cons (ok_home_has hT n) (sfOk_cons (ok_home_Encode hT n) (sfOk_cons (ok_sector_Disk_Write hT n) sfOk_nil))) itOk_nil fun a h => e_home_Save n a.1 a.2.1 a.2.2.1 a.2.2.2.1 h
theorem ok_home_Load (hT : LfT T) (n : Nat) : Sf1Ok T k_home_Load (s_home_Load n) := mkSf_ok (sf := sf_home_Load n) (it := it_home_Load n) (n := n) hT.t_home_Load (sfOk_cons (ok_home_has hT n) (sfOk_cons (ok_sector_Disk_Read hT n) (sfOk_cons (ok_home_Decode hT n) sfOk_nil))) itOk_nil fun a h => e_home_Load n a.1 a.2.1 a.2.2.1 h
theorem ok_home_All (hT : LfT T) (n : Nat) : Sf1Ok T k_home_All (s_home_All n) := mkSf_ok (sf := sf_home_All n) (it := it_home_All n) (n := n) hT.t_home_All (sfOk_cons (ok_home_fits hT n) (sfOk_cons (ok_home_Load hT n) sfOk_nil)) itOk_nil fun a h => e_home_All n a.1 a.2.1 h
theorem ok_wicketlaw08_HomeKeeps (hT : LfT T) (n : Nat) : Sf1Ok T k_wicketlaw08_HomeKeeps (s_wicketlaw08_HomeKeeps n) := mkSf_ok (sf := sf_wicketlaw08_HomeKeeps n) (it := it_wicketlaw08_HomeKeeps n) (n := n) hT.t_wicketlaw08_HomeKeeps (sfOk_cons (ok_home_New hT n) (sfOk_cons (ok_wicketlaw08_awake hT n) (sfOk_cons (ok_home_Save hT n) (sfOk_cons (ok_sector_Disk_Image hT n) (sfOk_cons (ok_home_All hT n) (sfOk_cons (ok_sector_Disk_Waiting hT n) (sfOk_cons (ok_sector_Disk_Flush hT n) (sfOk_cons (ok_wicketref08_Same hT n) sfOk_nil)))))))) itOk_nil fun a h => e_wicketlaw08_HomeKeeps n a.1 a.2.1 a.2.2.1 a.2.2.2.1 h
end Go.Proofs.YtafiigaiejpgiaaDoor
