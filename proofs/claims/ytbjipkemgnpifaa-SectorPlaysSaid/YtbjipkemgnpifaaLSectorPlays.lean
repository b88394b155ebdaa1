/- The functions at hand as plain typed functions, each with the proof that it is what the abstract machine's code does. -/
import Derived.Test.YtbjipkemgnpifaaB9
import Derived.KernelRfl
namespace Go.Proofs.Ytbjipkemgnpifaa
open Go
set_option linter.unusedVariables false
set_option maxRecDepth 100000
def k_wicketlaw04_awake : Nat := 4
def k_sector_New : Nat := 5
def k_wicketref04_New : Nat := 6
def k_wicketref04_Disk_Copy : Nat := 8
def k_sector_Disk_Image : Nat := 10
def k_wicketlaw04_sameWrites : Nat := 11
def k_sector_Disk_Len : Nat := 13
def k_sector_Disk_Crash : Nat := 16
def k_slices_Clone_sector_data_sector_data : Nat := 17
def k_slices_Clone_sector_waiting_sector_waiting : Nat := 18
def k_wicketlaw04_own : Nat := 21
def k_wicketlaw04_marked : Nat := 22
def k_wicketlaw04_held : Nat := 24
def k_sector_Disk_Flush : Nat := 25
def k_wicketref04_Disk_Crash : Nat := 27
def k_wicketlaw04_Apart : Nat := 28
def k_wicketref04_Disk_Len : Nat := 29
def k_sector_Load : Nat := 30
def k_wicketref04_Load : Nat := 31
def k_slices_Clone_byte_byte : Nat := 32
def k_sector_Disk_asked : Nat := 33
def k_slices_Backward_sector_waiting_sector_waiting_1 : Nat := 35
def k_sector_Disk_Copy : Nat := 7
def k_sector_Disk_Waiting : Nat := 12
def k_sector_Disk_Write : Nat := 14
def k_wicketref04_Disk_Read : Nat := 19
def k_wicketlaw04_pair_keeps : Nat := 20
def k_wicketref04_Disk_Write : Nat := 23
def k_wicketref04_Disk_Flush : Nat := 26
def k_slices_Backward_sector_waiting_sector_waiting : Nat := 34
def k_sector_Disk_Read : Nat := 15
def k_wicketlaw04_pair_plays : Nat := 9
def k_wicketlaw04_SectorPlays : Nat := 3

def f_wicketlaw04_awake (n : Nat) (h : Heap) : Option ((Bool × Unit) × Heap) := yesB h
noncomputable def s_wicketlaw04_awake (n : Nat) : Sf1 := mkSf [] [(.tmp 0, .bool)] fun a h => f_wicketlaw04_awake n h
def PrimT_wicketlaw04_awake (T : Nat → Option AFun) : Prop := T k_wicketlaw04_awake = some ⟨[], .skip, some yes⟩
theorem primOk_wicketlaw04_awake {T : Nat → Option AFun} (hT : PrimT_wicketlaw04_awake T) (n : Nat) : Sf1Ok T k_wicketlaw04_awake (s_wicketlaw04_awake n) := yes_sf hT

/- wicket/sector.New -/
def c2_sector_New : C2 :=
  .seq (.reg [(⟨(some 2), .move (.const (.pointer none)), none⟩, .ptr),
      (⟨(some 3), .move (.const (.int .i64 0)), none⟩, (.int .i64))]) <|
  .seq (.seq (.cutn [(9, .bool)] <|
        .reg [(⟨(some 4), .move (.tmp 0), none⟩, (.int .i64)),
          (⟨(some 5), .bin .lss (.tmp 4) (.const (.int .i64 1)), none⟩, .bool),
          (⟨(some 6), .move (.tmp 5), none⟩, .bool),
          (⟨(some 7), .move (.tmp 0), some (6, false)⟩, (.int .i64)),
          (⟨(some 8), .bin .gtr (.tmp 7) (.const (.int .i64 4096)), some (6, false)⟩, .bool),
          (⟨(some 9), .pick (.tmp 6) (.const (.bool true)) (.tmp 8), none⟩, .bool)]) <|
    .cond (.tmp 9)
      (.seq (.reg [(⟨(some 2), .move (.const (.pointer none)), none⟩, .ptr),
          (⟨(some 3), .move (.const (.int .i64 2)), none⟩, (.int .i64))]) <|
      .ret)
      (.skip)) <|
  .seq (.reg [(⟨(some 10), .move (.tmp 0), none⟩, (.int .i64)),
      (⟨(some 11), .makeSlice 64 64 (List.replicate 64 (.int .u8 0)) (.tmp 10) (.tmp 10), none⟩, .any),
      (⟨(some 12), .build [(.slice none 0 0), (.slice none 0 0)] [(0, 1, (.tmp 11))], none⟩, .any),
      (⟨(some 13), .box (.tmp 12), none⟩, .ptr),
      (⟨(some 2), .move (.tmp 13), none⟩, .ptr),
      (⟨(some 3), .move (.const (.int .i64 0)), none⟩, (.int .i64))]) <|
  .ret
noncomputable def sf_sector_New (n : Nat) : Sf := sfOf []
noncomputable def it_sector_New (n : Nat) : It := itOf []
def f_sector_New (n : Nat) (u0 : Int) (h : Heap) : Option ((Option Addr × Int × Unit) × Heap) :=
  ((bif (decide (u0 < 1)) then
      (some ((true, ()), h))
    else
      (some (((decide (4096 < u0)), ()), h))) : Option ((Bool × Unit) × Heap)).bind fun a0 =>
  bif a0.1.1 then
    (some ((none, (2, ())), a0.2))
  else
    ((mkSl (Heap.next a0.2) 64 64 (List.replicate 64 (.int .u8 0)) (.int .i64 u0) (.int .i64 u0)).bind fun p1 =>
    bnd ((Heap.new a0.2 (p1.2))) fun h2 =>
    (fillL [(.slice none 0 0), (.slice none 0 0)] [(0, 1, p1.1)]).bind fun cs3 =>
    bif (cs3 : List Value).all isCell then
      (bnd ((Heap.new h2 (.cells cs3 false 0))) fun h4 =>
      some (((some (nwA h2)), (0, ())), h4))
    else
      (none))
def rs_sector_New : Rs := [(.tmp 2, .ptr), (.tmp 3, (.int .i64))]
def ps_sector_New : List Ty := [(.int .i64)]
theorem e_sector_New (n : Nat) (u0 : Int) (h : Heap) : f_sector_New n u0 h = fB (sf_sector_New n) (it_sector_New n) n c2_sector_New rs_sector_New ps_sector_New (u0, ()) h := by kernel_rfl
noncomputable def s_sector_New (n : Nat) : Sf1 := mkSf ps_sector_New rs_sector_New fun a h => f_sector_New n a.1 h

/- wicket/wicketref04.New -/
def c2_wicketref04_New : C2 :=
  .seq (.reg [(⟨(some 2), .move (.const (.pointer none)), none⟩, .ptr),
      (⟨(some 3), .move (.const (.int .i64 0)), none⟩, (.int .i64))]) <|
  .seq (.seq (.cutn [(9, .bool)] <|
        .reg [(⟨(some 4), .move (.tmp 0), none⟩, (.int .i64)),
          (⟨(some 5), .bin .lss (.tmp 4) (.const (.int .i64 1)), none⟩, .bool),
          (⟨(some 6), .move (.tmp 5), none⟩, .bool),
          (⟨(some 7), .move (.tmp 0), some (6, false)⟩, (.int .i64)),
          (⟨(some 8), .bin .gtr (.tmp 7) (.const (.int .i64 4096)), some (6, false)⟩, .bool),
          (⟨(some 9), .pick (.tmp 6) (.const (.bool true)) (.tmp 8), none⟩, .bool)]) <|
    .cond (.tmp 9)
      (.seq (.reg [(⟨(some 2), .move (.const (.pointer none)), none⟩, .ptr),
          (⟨(some 3), .move (.const (.int .i64 2)), none⟩, (.int .i64))]) <|
      .ret)
      (.skip)) <|
  .seq (.reg [(⟨(some 10), .move (.tmp 0), none⟩, (.int .i64)),
      (⟨(some 11), .bin .mul (.tmp 10) (.const (.int .i64 64)), none⟩, (.int .i64)),
      (⟨(some 12), .makeSlice 1 1 [(.int .u8 0)] (.tmp 11) (.tmp 11), none⟩, .any),
      (⟨(some 13), .build [(.slice none 0 0), (.slice none 0 0)] [(0, 1, (.tmp 12))], none⟩, .any),
      (⟨(some 14), .box (.tmp 13), none⟩, .ptr),
      (⟨(some 2), .move (.tmp 14), none⟩, .ptr),
      (⟨(some 3), .move (.const (.int .i64 0)), none⟩, (.int .i64))]) <|
  .ret
noncomputable def sf_wicketref04_New (n : Nat) : Sf := sfOf []
noncomputable def it_wicketref04_New (n : Nat) : It := itOf []
def f_wicketref04_New (n : Nat) (u0 : Int) (h : Heap) : Option ((Option Addr × Int × Unit) × Heap) :=
  ((bif (decide (u0 < 1)) then
      (some ((true, ()), h))
    else
      (some (((decide (4096 < u0)), ()), h))) : Option ((Bool × Unit) × Heap)).bind fun a0 =>
  bif a0.1.1 then
    (some ((none, (2, ())), a0.2))
  else
    ((mkSl (Heap.next a0.2) 1 1 [(.int .u8 0)] (.int .i64 (IntKind.i64.wrap (u0 * 64))) (.int .i64 (IntKind.i64.wrap (u0 * 64)))).bind fun p1 =>
    bnd ((Heap.new a0.2 (p1.2))) fun h2 =>
    (fillL [(.slice none 0 0), (.slice none 0 0)] [(0, 1, p1.1)]).bind fun cs3 =>
    bif (cs3 : List Value).all isCell then
      (bnd ((Heap.new h2 (.cells cs3 false 0))) fun h4 =>
      some (((some (nwA h2)), (0, ())), h4))
    else
      (none))
def rs_wicketref04_New : Rs := [(.tmp 2, .ptr), (.tmp 3, (.int .i64))]
def ps_wicketref04_New : List Ty := [(.int .i64)]
theorem e_wicketref04_New (n : Nat) (u0 : Int) (h : Heap) : f_wicketref04_New n u0 h = fB (sf_wicketref04_New n) (it_wicketref04_New n) n c2_wicketref04_New rs_wicketref04_New ps_wicketref04_New (u0, ()) h := by kernel_rfl
noncomputable def s_wicketref04_New (n : Nat) : Sf1 := mkSf ps_wicketref04_New rs_wicketref04_New fun a h => f_wicketref04_New n a.1 h

/- (*wicket/wicketref04.Disk).Copy -/
def c2_wicketref04_Disk_Copy : C2 :=
  .seq (.reg [(⟨(some 2), .move (.const (.pointer none)), none⟩, .ptr)]) <|
  .seq (.reg [(⟨(some 5), .buildSlice 0 1 [] [], none⟩, .any),
      (⟨(some 6), .move (.tmp 0), none⟩, .ptr),
      (⟨(some 7), .nilCheck (.tmp 6), none⟩, .ptr),
      (⟨(some 8), .fieldAddr 0 (.tmp 7), none⟩, .ptr),
      (⟨(some 9), .load false 1 (.tmp 8), none⟩, .any),
      (⟨(some 10), .append 1 1 (.tmp 5) (.tmp 9), none⟩, .any),
      (⟨(some 11), .build [(.slice none 0 0), (.slice none 0 0)] [(0, 1, (.tmp 10))], none⟩, .any),
      (⟨(some 12), .box (.tmp 11), none⟩, .ptr),
      (⟨(some 3), .move (.tmp 12), none⟩, .ptr)]) <|
  .seq (.seq (.reg [(⟨(some 4), .move (.const (.int .i64 0)), none⟩, (.int .i64))]) <|
    .block 0 <|
      .loop [(4, (.int .i64))] <|
        .seq (.seq (.reg [(⟨(some 13), .move (.tmp 4), none⟩, (.int .i64)),
              (⟨(some 14), .move (.tmp 0), none⟩, .ptr),
              (⟨(some 15), .nilCheck (.tmp 14), none⟩, .ptr),
              (⟨(some 16), .fieldAddr 1 (.tmp 15), none⟩, .ptr),
              (⟨(some 17), .load false 1 (.tmp 16), none⟩, .any),
              (⟨(some 18), .lenS (.tmp 17), none⟩, (.int .i64)),
              (⟨(some 19), .bin .lss (.tmp 13) (.tmp 18), none⟩, .bool)]) <|
          .cond (.tmp 19)
            (.skip)
            (.exit 0)) <|
        .seq (.block 1 <|
            .regd [(⟨0, [], false, ⟨(some 22), .move (.tmp 3), none⟩⟩, .ptr),
              (⟨1, [], false, ⟨(some 23), .move (.tmp 3), none⟩⟩, .ptr),
              (⟨2, [1], false, ⟨(some 24), .nilCheck (.tmp 23), none⟩⟩, .ptr),
              (⟨3, [2, 1], false, ⟨(some 25), .fieldAddr 1 (.tmp 24), none⟩⟩, .ptr),
              (⟨4, [3, 2, 1], false, ⟨(some 26), .load false 1 (.tmp 25), none⟩⟩, .any),
              (⟨5, [], false, ⟨(some 27), .move (.tmp 0), none⟩⟩, .ptr),
              (⟨6, [5], false, ⟨(some 28), .nilCheck (.tmp 27), none⟩⟩, .ptr),
              (⟨7, [6, 5], false, ⟨(some 29), .fieldAddr 1 (.tmp 28), none⟩⟩, .ptr),
              (⟨8, [7, 6, 5], false, ⟨(some 30), .load false 1 (.tmp 29), none⟩⟩, .any),
              (⟨9, [], false, ⟨(some 31), .move (.tmp 4), none⟩⟩, (.int .i64)),
              (⟨10, [8, 9, 7, 6, 5], false, ⟨(some 32), .idxSlice 2 (.tmp 30) (.tmp 31), none⟩⟩, .ptr),
              (⟨11, [10, 8, 9, 7, 6, 5], false, ⟨(some 33), .fieldAddr 0 (.tmp 32), none⟩⟩, .ptr),
              (⟨12, [11, 10, 8, 9, 7, 6, 5], false, ⟨(some 34), .load false 1 (.tmp 33), none⟩⟩, (.int .i64)),
              (⟨13, [], false, ⟨(some 35), .buildSlice 0 1 [] [], none⟩⟩, .any),
              (⟨14, [], false, ⟨(some 36), .move (.tmp 0), none⟩⟩, .ptr),
              (⟨15, [14], false, ⟨(some 37), .nilCheck (.tmp 36), none⟩⟩, .ptr),
              (⟨16, [15, 14], false, ⟨(some 38), .fieldAddr 1 (.tmp 37), none⟩⟩, .ptr),
              (⟨17, [16, 15, 14], false, ⟨(some 39), .load false 1 (.tmp 38), none⟩⟩, .any),
              (⟨18, [], false, ⟨(some 40), .move (.tmp 4), none⟩⟩, (.int .i64)),
              (⟨19, [17, 18, 16, 15, 14], false, ⟨(some 41), .idxSlice 2 (.tmp 39) (.tmp 40), none⟩⟩, .ptr),
              (⟨20, [19, 17, 18, 16, 15, 14], false, ⟨(some 42), .fieldAddr 1 (.tmp 41), none⟩⟩, .ptr),
              (⟨21, [20, 19, 17, 18, 16, 15, 14], false, ⟨(some 43), .load false 1 (.tmp 42), none⟩⟩, .any),
              (⟨22, [13, 21, 20, 19, 17, 18, 16, 15, 14], true, ⟨(some 44), .append 1 1 (.tmp 35) (.tmp 43), none⟩⟩, .any),
              (⟨23, [12, 22, 11, 10, 8, 9, 7, 6, 5, 13, 21, 20, 19, 17, 18, 16, 15, 14], false, ⟨(some 45), .build [(.int .i64 0), (.slice none 0 0)] [(0, 1, (.tmp 34)), (1, 1, (.tmp 44))], none⟩⟩, .any),
              (⟨24, [23, 12, 22, 11, 10, 8, 9, 7, 6, 5, 13, 21, 20, 19, 17, 18, 16, 15, 14], false, ⟨(some 46), .buildSlice 1 2 [(.int .i64 0), (.slice none 0 0)] [(0, 2, (.tmp 45))], none⟩⟩, .any),
              (⟨25, [4, 24, 22, 3, 2, 1, 23, 12, 11, 10, 8, 9, 7, 6, 5, 13, 21, 20, 19, 17, 18, 16, 15, 14], true, ⟨(some 47), .append 32 2 (.tmp 26) (.tmp 46), none⟩⟩, .any),
              (⟨26, [0, 1, 2, 3, 4, 5, 6, 7, 8, 9, 10, 11, 12, 13, 14, 15, 16, 17, 18, 19, 20, 21, 22, 23, 24, 25], false, ⟨(some 48), .nilCheck (.tmp 22), none⟩⟩, .ptr),
              (⟨27, [26, 0, 1, 2, 3, 4, 5, 6, 7, 8, 9, 10, 11, 12, 13, 14, 15, 16, 17, 18, 19, 20, 21, 22, 23, 24, 25], false, ⟨(some 49), .fieldAddr 1 (.tmp 48), none⟩⟩, .ptr),
              (⟨28, [27, 25, 0, 1, 2, 3, 4, 5, 6, 7, 8, 9, 10, 11, 12, 13, 14, 15, 16, 17, 18, 19, 20, 21, 22, 23, 24, 26], true, ⟨none, .store 1 (.tmp 49) (.tmp 47), none⟩⟩, .any)]) <|
        .reg [(⟨(some 20), .move (.tmp 4), none⟩, (.int .i64)),
          (⟨(some 21), .bin .add (.tmp 20) (.const (.int .i64 1)), none⟩, (.int .i64)),
          (⟨(some 4), .move (.tmp 21), none⟩, (.int .i64))]) <|
  .seq (.reg [(⟨(some 50), .move (.tmp 3), none⟩, .ptr),
      (⟨(some 2), .move (.tmp 50), none⟩, .ptr)]) <|
  .ret
def f_wicketref04_Disk_Copy_L30 (n : Nat) (u0 : Option Addr) (p4 : (Value × Heap)) (v7 : Int) (h8 : Heap) : Option (((Int × Unit) × Heap) ⊕ ((Option Addr × Unit) × Heap)) :=
  (u0).bind fun q9 =>
  (ldT .any h8 (some (fa q9 1))).bind fun x10 =>
  (lenB x10).bind fun n11 =>
  bif (decide (v7 < (n11 : Int))) then
    ((ldT .any h8 (some (fa (nwA p4.2) 1))).bind fun x12 =>
    (u0).bind fun q13 =>
    (ldT .any h8 (some (fa q13 1))).bind fun x14 =>
    (ixB 2 x14 v7).bind fun q15 =>
    (ldT (.int .i64) h8 (some (fa q15 0))).bind fun x16 =>
    (fillL [] []).bind fun cs17 =>
    bnd ((Heap.new h8 (.cells cs17 false 1))) fun h18 =>
    (u0).bind fun q19 =>
    (ldT .any (Heap.dropAll h18 ((Heap.next h8) :: [])) (some (fa q19 1))).bind fun x20 =>
    (ixB 2 x20 v7).bind fun q21 =>
    (ldT .any (Heap.dropAll h18 ((Heap.next h8) :: [])) (some (fa q21 1))).bind fun x22 =>
    (appendK (hid h18 [] ((Addr.block (fa q15 0)) :: ((Addr.block (fa q13 1)) :: ((Addr.block (fa (nwA p4.2) 1)) :: [])))) 1 1 (.slice (some ⟨Heap.next h8, 0, some 0⟩) 0 0) x22).bind fun p23 =>
    bnd (Heap.putBack p23.2 h18 ([] ++ ((Addr.block (fa q15 0)) :: ((Addr.block (fa q13 1)) :: ((Addr.block (fa (nwA p4.2) 1)) :: []))))) fun h24 =>
    (fillL [(.int .i64 0), (.slice none 0 0)] [(0, 1, (.int .i64 x16)), (1, 1, p23.1)]).bind fun cs25 =>
    (fillL [(.int .i64 0), (.slice none 0 0)] [(0, 2, (.agg ⟨cs25⟩))]).bind fun cs26 =>
    bnd ((Heap.new h24 (.cells cs26 false 2))) fun h27 =>
    (appendK h27 32 2 x12 (.slice (some ⟨Heap.next h24, 0, some 0⟩) 1 1)).bind fun p28 =>
    (stB 1 p28.1 p28.2 (some (fa (nwA p4.2) 1))).bind fun h29 =>
    some (.inl (((IntKind.i64.wrap (v7 + 1)), ()), h29)))
  else
    (some (.inr (((some (nwA p4.2)), ()), h8)))
noncomputable def sf_wicketref04_Disk_Copy (n : Nat) : Sf := sfOf []
noncomputable def it_wicketref04_Disk_Copy (n : Nat) : It := itOf []
def f_wicketref04_Disk_Copy (n : Nat) (u0 : Option Addr) (h : Heap) : Option ((Option Addr × Unit) × Heap) :=
  (fillL [] []).bind fun cs0 =>
  bnd ((Heap.new h (.cells cs0 false 1))) fun h1 =>
  (u0).bind fun q2 =>
  (ldT .any h1 (some (fa q2 0))).bind fun x3 =>
  (appendK h1 1 1 (.slice (some ⟨Heap.next h, 0, some 0⟩) 0 0) x3).bind fun p4 =>
  (fillL [(.slice none 0 0), (.slice none 0 0)] [(0, 1, p4.1)]).bind fun cs5 =>
  bif (cs5 : List Value).all isCell then
    (bnd ((Heap.new p4.2 (.cells cs5 false 0))) fun h6 =>
    loopT (fun a => f_wicketref04_Disk_Copy_L30 n u0 p4 a.1.1 a.2) n ((0, ()), h6))
  else
    (none)
def rs_wicketref04_Disk_Copy : Rs := [(.tmp 2, .ptr)]
def ps_wicketref04_Disk_Copy : List Ty := [.ptr]
theorem e_wicketref04_Disk_Copy (n : Nat) (u0 : Option Addr) (h : Heap) : f_wicketref04_Disk_Copy n u0 h = fB (sf_wicketref04_Disk_Copy n) (it_wicketref04_Disk_Copy n) n c2_wicketref04_Disk_Copy rs_wicketref04_Disk_Copy ps_wicketref04_Disk_Copy (u0, ()) h := by kernel_rfl
noncomputable def s_wicketref04_Disk_Copy (n : Nat) : Sf1 := mkSf ps_wicketref04_Disk_Copy rs_wicketref04_Disk_Copy fun a h => f_wicketref04_Disk_Copy n a.1 h

/- (*wicket/sector.Disk).Image -/
def c2_sector_Disk_Image : C2 :=
  .seq (.reg [(⟨(some 2), .move (.const (.slice none 0 0)), none⟩, .any)]) <|
  .seq (.seq (.reg [(⟨(some 6), .move (.tmp 0), none⟩, .ptr),
        (⟨(some 7), .eqv false .ptr (.tmp 6) (.const (.pointer none)), none⟩, .bool)]) <|
    .cond (.tmp 7)
      (.seq (.reg [(⟨(some 2), .move (.const (.slice none 0 0)), none⟩, .any)]) <|
      .ret)
      (.skip)) <|
  .seq (.reg [(⟨(some 8), .move (.tmp 0), none⟩, .ptr),
      (⟨(some 9), .nilCheck (.tmp 8), none⟩, .ptr),
      (⟨(some 10), .fieldAddr 0 (.tmp 9), none⟩, .ptr),
      (⟨(some 11), .load false 1 (.tmp 10), none⟩, .any),
      (⟨(some 12), .lenS (.tmp 11), none⟩, (.int .i64)),
      (⟨(some 13), .bin .mul (.tmp 12) (.const (.int .i64 64)), none⟩, (.int .i64)),
      (⟨(some 14), .makeSlice 1 1 [(.int .u8 0)] (.const (.int .i64 0)) (.tmp 13), none⟩, .any),
      (⟨(some 3), .move (.tmp 14), none⟩, .any)]) <|
  .seq (.seq (.reg [(⟨(some 15), .move (.tmp 0), none⟩, .ptr),
        (⟨(some 16), .nilCheck (.tmp 15), none⟩, .ptr),
        (⟨(some 17), .fieldAddr 0 (.tmp 16), none⟩, .ptr),
        (⟨(some 18), .load false 1 (.tmp 17), none⟩, .any),
        (⟨(some 19), .lenS (.tmp 18), none⟩, (.int .i64)),
        (⟨(some 20), .move (.const (.int .i64 0)), none⟩, (.int .i64))]) <|
    .block 0 <|
      .loop [(3, .any), (20, (.int .i64))] <|
        .seq (.reg [(⟨(some 21), .bin .lss (.tmp 20) (.tmp 19), none⟩, .any)]) <|
        .seq (.cond (.tmp 21)
            (.skip)
            (.exit 0)) <|
        .seq (.block 1 <|
            .seq (.reg [(⟨(some 22), .idxSlice 64 (.tmp 18) (.tmp 20), none⟩, .ptr),
                (⟨(some 23), .load true 64 (.tmp 22), none⟩, .any),
                (⟨(some 5), .alloc (List.replicate 64 (.int .u8 0)), none⟩, .ptr),
                (⟨none, .store 64 (.tmp 5) (.tmp 23), none⟩, .any)]) <|
            .reg [(⟨(some 24), .move (.tmp 3), none⟩, .any),
              (⟨(some 25), .sliceArr 64 1 (.tmp 5) none none none, none⟩, .any),
              (⟨(some 26), .append 1 1 (.tmp 24) (.tmp 25), none⟩, .any),
              (⟨(some 3), .move (.tmp 26), none⟩, .any)]) <|
        .reg [(⟨(some 27), .bin .add (.tmp 20) (.const (.int .i64 1)), none⟩, (.int .i64)),
          (⟨(some 20), .move (.tmp 27), none⟩, (.int .i64))]) <|
  .seq (.reg [(⟨(some 28), .move (.tmp 3), none⟩, .any),
      (⟨(some 2), .move (.tmp 28), none⟩, .any)]) <|
  .ret
def f_sector_Disk_Image_L17 (n : Nat) (x6 : Value) (n7 : Nat) (v8 : Value) (v9 : Int) (h10 : Heap) : Option (((Value × Int × Unit) × Heap) ⊕ ((Value × Unit) × Heap)) :=
  bif (decide (v9 < (n7 : Int))) then
    ((ixB 64 x6 v9).bind fun q11 =>
    (ldA 64 h10 (some q11)).bind fun cs12 =>
    bnd ((Heap.new h10 (.cells (List.replicate 64 (.int .u8 0)) false 0))) fun h13 =>
    (stB 64 (.agg ⟨cs12⟩) h13 (some (nwA h10))).bind fun h14 =>
    (sliceArrK h14 64 1 none none (.pointer (some (nwA h10)))).bind fun p15 =>
    (appendK h14 1 1 v8 p15.1).bind fun p16 =>
    some (.inl ((p16.1, ((IntKind.i64.wrap (v9 + 1)), ())), p16.2)))
  else
    (Option.map Sum.inr (bif !isTuple v8 then
      (some ((v8, ()), h10))
    else
      (none)))
noncomputable def sf_sector_Disk_Image (n : Nat) : Sf := sfOf []
noncomputable def it_sector_Disk_Image (n : Nat) : It := itOf []
def f_sector_Disk_Image (n : Nat) (u0 : Option Addr) (h : Heap) : Option ((Value × Unit) × Heap) :=
  bif (Option.isNone u0) then
    (some (((.slice none 0 0), ()), h))
  else
    ((u0).bind fun q0 =>
    (ldT .any h (some (fa q0 0))).bind fun x1 =>
    (lenB x1).bind fun n2 =>
    (mkSl (Heap.next h) 1 1 [(.int .u8 0)] (.int .i64 0) (.int .i64 (IntKind.i64.wrap ((n2 : Int) * 64)))).bind fun p3 =>
    bnd ((Heap.new h (p3.2))) fun h4 =>
    (u0).bind fun q5 =>
    (ldT .any h4 (some (fa q5 0))).bind fun x6 =>
    (lenB x6).bind fun n7 =>
    loopT (fun a => f_sector_Disk_Image_L17 n x6 n7 a.1.1 a.1.2.1 a.2) n ((p3.1, (0, ())), h4))
def rs_sector_Disk_Image : Rs := [(.tmp 2, .any)]
def ps_sector_Disk_Image : List Ty := [.ptr]
theorem e_sector_Disk_Image (n : Nat) (u0 : Option Addr) (h : Heap) : f_sector_Disk_Image n u0 h = fB (sf_sector_Disk_Image n) (it_sector_Disk_Image n) n c2_sector_Disk_Image rs_sector_Disk_Image ps_sector_Disk_Image (u0, ()) h := by kernel_rfl
noncomputable def s_sector_Disk_Image (n : Nat) : Sf1 := mkSf ps_sector_Disk_Image rs_sector_Disk_Image fun a h => f_sector_Disk_Image n a.1 h

/- wicket/wicketlaw04.sameWrites -/
def c2_wicketlaw04_sameWrites : C2 :=
  .seq (.reg [(⟨(some 4), .move (.const (.bool false)), none⟩, .bool)]) <|
  .seq (.seq (.reg [(⟨(some 6), .move (.tmp 0), none⟩, .any),
        (⟨(some 7), .lenS (.tmp 6), none⟩, (.int .i64)),
        (⟨(some 8), .move (.tmp 1), none⟩, .any),
        (⟨(some 9), .lenS (.tmp 8), none⟩, (.int .i64)),
        (⟨(some 10), .bin .neq (.tmp 7) (.tmp 9), none⟩, .bool)]) <|
    .cond (.tmp 10)
      (.seq (.reg [(⟨(some 4), .move (.const (.bool false)), none⟩, .bool)]) <|
      .ret)
      (.skip)) <|
  .seq (.seq (.reg [(⟨(some 11), .move (.tmp 0), none⟩, .any),
        (⟨(some 12), .lenS (.tmp 11), none⟩, (.int .i64)),
        (⟨(some 13), .move (.const (.int .i64 0)), none⟩, (.int .i64))]) <|
    .block 0 <|
      .loop [(13, (.int .i64))] <|
        .seq (.reg [(⟨(some 14), .bin .lss (.tmp 13) (.tmp 12), none⟩, .any)]) <|
        .seq (.cond (.tmp 14)
            (.skip)
            (.exit 0)) <|
        .seq (.block 1 <|
            .seq (.reg [(⟨(some 15), .move (.tmp 13), none⟩, (.int .i64)),
                (⟨(some 5), .move (.tmp 15), none⟩, (.int .i64))]) <|
            .seq (.cutn [(41, .bool)] <|
                .regd [(⟨0, [], false, ⟨(some 16), .move (.tmp 0), none⟩⟩, .any),
                  (⟨1, [], false, ⟨(some 17), .move (.tmp 5), none⟩⟩, (.int .i64)),
                  (⟨2, [0, 1], false, ⟨(some 18), .idxSlice 2 (.tmp 16) (.tmp 17), none⟩⟩, .ptr),
                  (⟨3, [2, 0, 1], false, ⟨(some 19), .fieldAddr 0 (.tmp 18), none⟩⟩, .ptr),
                  (⟨4, [3, 2, 0, 1], false, ⟨(some 20), .load false 1 (.tmp 19), none⟩⟩, (.int .i64)),
                  (⟨5, [], false, ⟨(some 21), .move (.tmp 1), none⟩⟩, .any),
                  (⟨6, [], false, ⟨(some 22), .move (.tmp 5), none⟩⟩, (.int .i64)),
                  (⟨7, [5, 6], false, ⟨(some 23), .idxSlice 2 (.tmp 21) (.tmp 22), none⟩⟩, .ptr),
                  (⟨8, [7, 5, 6], false, ⟨(some 24), .fieldAddr 0 (.tmp 23), none⟩⟩, .ptr),
                  (⟨9, [8, 7, 5, 6], false, ⟨(some 25), .load false 1 (.tmp 24), none⟩⟩, (.int .i64)),
                  (⟨10, [4, 9, 3, 2, 0, 1, 8, 7, 5, 6], false, ⟨(some 26), .bin .neq (.tmp 20) (.tmp 25), none⟩⟩, .bool),
                  (⟨11, [10, 4, 9, 3, 2, 0, 1, 8, 7, 5, 6], false, ⟨(some 27), .move (.tmp 26), none⟩⟩, .bool),
                  (⟨12, [11, 10, 4, 9, 3, 2, 0, 1, 8, 7, 5, 6], false, ⟨(some 28), .move (.tmp 0), some (27, false)⟩⟩, .any),
                  (⟨13, [11, 10, 4, 9, 3, 2, 0, 1, 8, 7, 5, 6], false, ⟨(some 29), .move (.tmp 5), some (27, false)⟩⟩, (.int .i64)),
                  (⟨14, [12, 13, 11, 10, 4, 9, 3, 2, 0, 1, 8, 7, 5, 6], false, ⟨(some 30), .idxSlice 2 (.tmp 28) (.tmp 29), some (27, false)⟩⟩, .ptr),
                  (⟨15, [14, 11, 12, 13, 10, 4, 9, 3, 2, 0, 1, 8, 7, 5, 6], false, ⟨(some 31), .fieldAddr 1 (.tmp 30), some (27, false)⟩⟩, .ptr),
                  (⟨16, [15, 11, 14, 12, 13, 10, 4, 9, 3, 2, 0, 1, 8, 7, 5, 6], false, ⟨(some 32), .load false 1 (.tmp 31), some (27, false)⟩⟩, .any),
                  (⟨17, [16, 11, 15, 14, 12, 13, 10, 4, 9, 3, 2, 0, 1, 8, 7, 5, 6], false, ⟨(some 33), .toStr (.tmp 32), some (27, false)⟩⟩, .any),
                  (⟨18, [11, 10, 4, 9, 3, 2, 0, 1, 8, 7, 5, 6], false, ⟨(some 34), .move (.tmp 1), some (27, false)⟩⟩, .any),
                  (⟨19, [11, 10, 4, 9, 3, 2, 0, 1, 8, 7, 5, 6], false, ⟨(some 35), .move (.tmp 5), some (27, false)⟩⟩, (.int .i64)),
                  (⟨20, [18, 19, 11, 10, 4, 9, 3, 2, 0, 1, 8, 7, 5, 6], false, ⟨(some 36), .idxSlice 2 (.tmp 34) (.tmp 35), some (27, false)⟩⟩, .ptr),
                  (⟨21, [20, 11, 18, 19, 10, 4, 9, 3, 2, 0, 1, 8, 7, 5, 6], false, ⟨(some 37), .fieldAddr 1 (.tmp 36), some (27, false)⟩⟩, .ptr),
                  (⟨22, [21, 11, 20, 18, 19, 10, 4, 9, 3, 2, 0, 1, 8, 7, 5, 6], false, ⟨(some 38), .load false 1 (.tmp 37), some (27, false)⟩⟩, .any),
                  (⟨23, [22, 11, 21, 20, 18, 19, 10, 4, 9, 3, 2, 0, 1, 8, 7, 5, 6], false, ⟨(some 39), .toStr (.tmp 38), some (27, false)⟩⟩, .any),
                  (⟨24, [17, 23, 11, 16, 15, 14, 12, 13, 10, 4, 9, 3, 2, 0, 1, 8, 7, 5, 6, 22, 21, 20, 18, 19], false, ⟨(some 40), .bins .neq (.tmp 33) (.tmp 39), some (27, false)⟩⟩, .bool),
                  (⟨25, [11, 24, 10, 4, 9, 3, 2, 0, 1, 8, 7, 5, 6, 17, 23, 16, 15, 14, 12, 13, 22, 21, 20, 18, 19], false, ⟨(some 41), .pick (.tmp 27) (.const (.bool true)) (.tmp 40), none⟩⟩, .bool)]) <|
            .cond (.tmp 41)
              (.seq (.reg [(⟨(some 4), .move (.const (.bool false)), none⟩, .bool)]) <|
              .ret)
              (.skip)) <|
        .reg [(⟨(some 42), .bin .add (.tmp 13) (.const (.int .i64 1)), none⟩, (.int .i64)),
          (⟨(some 13), .move (.tmp 42), none⟩, (.int .i64))]) <|
  .seq (.reg [(⟨(some 4), .move (.const (.bool true)), none⟩, .bool)]) <|
  .ret
def f_wicketlaw04_sameWrites_L17 (n : Nat) (u1 : Value) (u0 : Value) (n2 : Nat) (v3 : Int) (h4 : Heap) : Option (((Int × Unit) × Heap) ⊕ ((Bool × Unit) × Heap)) :=
  bif (decide (v3 < (n2 : Int))) then
    ((((ixB 2 u0 v3).bind fun q5 =>
      (ldT (.int .i64) h4 (some (fa q5 0))).bind fun x6 =>
      (ixB 2 u1 v3).bind fun q7 =>
      (ldT (.int .i64) h4 (some (fa q7 0))).bind fun x8 =>
      bif (!decide (x6 = x8)) then
        (some ((true, ()), h4))
      else
        ((ixB 2 u0 v3).bind fun q9 =>
        (ldT .any h4 (some (fa q9 1))).bind fun x10 =>
        (toStrK h4 x10).bind fun p11 =>
        (ixB 2 u1 v3).bind fun q12 =>
        (ldT .any h4 (some (fa q12 1))).bind fun x13 =>
        (toStrK h4 x13).bind fun p14 =>
        (binsT .bool h4 .neq p11.1 p14.1).bind fun x15 =>
        some ((x15, ()), h4))) : Option ((Bool × Unit) × Heap)).bind fun a16 =>
    bif a16.1.1 then
      (some (.inr ((false, ()), a16.2)))
    else
      (some (.inl (((IntKind.i64.wrap (v3 + 1)), ()), a16.2))))
  else
    (some (.inr ((true, ()), h4)))
noncomputable def sf_wicketlaw04_sameWrites (n : Nat) : Sf := sfOf []
noncomputable def it_wicketlaw04_sameWrites (n : Nat) : It := itOf []
def f_wicketlaw04_sameWrites (n : Nat) (u0 : Value) (u1 : Value) (h : Heap) : Option ((Bool × Unit) × Heap) :=
  (lenB u0).bind fun n0 =>
  (lenB u1).bind fun n1 =>
  bif (!decide ((n0 : Int) = (n1 : Int))) then
    (some ((false, ()), h))
  else
    ((lenB u0).bind fun n2 =>
    loopT (fun a => f_wicketlaw04_sameWrites_L17 n u1 u0 n2 a.1.1 a.2) n ((0, ()), h))
def rs_wicketlaw04_sameWrites : Rs := [(.tmp 4, .bool)]
def ps_wicketlaw04_sameWrites : List Ty := [.any, .any]
theorem e_wicketlaw04_sameWrites (n : Nat) (u0 : Value) (u1 : Value) (h : Heap) : f_wicketlaw04_sameWrites n u0 u1 h = fB (sf_wicketlaw04_sameWrites n) (it_wicketlaw04_sameWrites n) n c2_wicketlaw04_sameWrites rs_wicketlaw04_sameWrites ps_wicketlaw04_sameWrites (u0, (u1, ())) h := by kernel_rfl
noncomputable def s_wicketlaw04_sameWrites (n : Nat) : Sf1 := mkSf ps_wicketlaw04_sameWrites rs_wicketlaw04_sameWrites fun a h => f_wicketlaw04_sameWrites n a.1 a.2.1 h

/- (*wicket/sector.Disk).Len -/
def c2_sector_Disk_Len : C2 :=
  .seq (.reg [(⟨(some 2), .move (.const (.int .i64 0)), none⟩, (.int .i64))]) <|
  .seq (.seq (.reg [(⟨(some 3), .move (.tmp 0), none⟩, .ptr),
        (⟨(some 4), .eqv false .ptr (.tmp 3) (.const (.pointer none)), none⟩, .bool)]) <|
    .cond (.tmp 4)
      (.seq (.reg [(⟨(some 2), .move (.const (.int .i64 0)), none⟩, (.int .i64))]) <|
      .ret)
      (.skip)) <|
  .seq (.reg [(⟨(some 5), .move (.tmp 0), none⟩, .ptr),
      (⟨(some 6), .nilCheck (.tmp 5), none⟩, .ptr),
      (⟨(some 7), .fieldAddr 0 (.tmp 6), none⟩, .ptr),
      (⟨(some 8), .load false 1 (.tmp 7), none⟩, .any),
      (⟨(some 9), .lenS (.tmp 8), none⟩, (.int .i64)),
      (⟨(some 2), .move (.tmp 9), none⟩, (.int .i64))]) <|
  .ret
noncomputable def sf_sector_Disk_Len (n : Nat) : Sf := sfOf []
noncomputable def it_sector_Disk_Len (n : Nat) : It := itOf []
def f_sector_Disk_Len (n : Nat) (u0 : Option Addr) (h : Heap) : Option ((Int × Unit) × Heap) :=
  bif (Option.isNone u0) then
    (some ((0, ()), h))
  else
    ((u0).bind fun q0 =>
    (ldT .any h (some (fa q0 0))).bind fun x1 =>
    (lenB x1).bind fun n2 =>
    some (((n2 : Int), ()), h))
def rs_sector_Disk_Len : Rs := [(.tmp 2, (.int .i64))]
def ps_sector_Disk_Len : List Ty := [.ptr]
theorem e_sector_Disk_Len (n : Nat) (u0 : Option Addr) (h : Heap) : f_sector_Disk_Len n u0 h = fB (sf_sector_Disk_Len n) (it_sector_Disk_Len n) n c2_sector_Disk_Len rs_sector_Disk_Len ps_sector_Disk_Len (u0, ()) h := by kernel_rfl
noncomputable def s_sector_Disk_Len (n : Nat) : Sf1 := mkSf ps_sector_Disk_Len rs_sector_Disk_Len fun a h => f_sector_Disk_Len n a.1 h

/- (*wicket/sector.Disk).Crash -/
def c2_sector_Disk_Crash : C2 :=
  .seq (.reg [(⟨(some 4), .move (.const (.int .i64 0)), none⟩, (.int .i64)),
      (⟨(some 5), .move (.const (.int .i64 0)), none⟩, (.int .i64))]) <|
  .seq (.seq (.reg [(⟨(some 12), .move (.tmp 0), none⟩, .ptr),
        (⟨(some 13), .eqv false .ptr (.tmp 12) (.const (.pointer none)), none⟩, .bool)]) <|
    .cond (.tmp 13)
      (.seq (.reg [(⟨(some 4), .move (.const (.int .i64 0)), none⟩, (.int .i64)),
          (⟨(some 5), .move (.const (.int .i64 1)), none⟩, (.int .i64))]) <|
      .ret)
      (.skip)) <|
  .seq (.reg [(⟨(some 14), .move (.tmp 0), none⟩, .ptr),
      (⟨(some 15), .nilCheck (.tmp 14), none⟩, .ptr),
      (⟨(some 16), .fieldAddr 1 (.tmp 15), none⟩, .ptr),
      (⟨(some 17), .load false 1 (.tmp 16), none⟩, .any),
      (⟨(some 18), .lenS (.tmp 17), none⟩, (.int .i64)),
      (⟨(some 19), .makeSlice 1 1 [(.int .u8 0)] (.tmp 18) (.tmp 18), none⟩, .any),
      (⟨(some 6), .move (.tmp 19), none⟩, .any)]) <|
  .seq (.cutn [] <|
      .seq (.reg [(⟨(some 20), .move (.tmp 1), none⟩, .any),
          (⟨(some 21), .lenS (.tmp 20), none⟩, (.int .i64)),
          (⟨(some 22), .move (.const (.int .i64 0)), none⟩, (.int .i64))]) <|
      .block 0 <|
        .loop [(22, (.int .i64))] <|
          .seq (.reg [(⟨(some 23), .bin .lss (.tmp 22) (.tmp 21), none⟩, .any)]) <|
          .seq (.cond (.tmp 23)
              (.skip)
              (.exit 0)) <|
          .seq (.cutn [] <|
              .block 1 <|
                .seq (.reg [(⟨(some 24), .idxSlice 1 (.tmp 20) (.tmp 22), none⟩, .ptr),
                    (⟨(some 25), .load false 1 (.tmp 24), none⟩, (.int .i64)),
                    (⟨(some 8), .move (.tmp 25), none⟩, (.int .i64))]) <|
                .seq (.cutn [(33, .bool)] <|
                    .reg [(⟨(some 26), .move (.tmp 8), none⟩, (.int .i64)),
                      (⟨(some 27), .bin .geq (.tmp 26) (.const (.int .i64 0)), none⟩, .bool),
                      (⟨(some 28), .move (.tmp 27), none⟩, .bool),
                      (⟨(some 29), .move (.tmp 8), some (28, true)⟩, (.int .i64)),
                      (⟨(some 30), .move (.tmp 6), some (28, true)⟩, .any),
                      (⟨(some 31), .lenS (.tmp 30), some (28, true)⟩, (.int .i64)),
                      (⟨(some 32), .bin .lss (.tmp 29) (.tmp 31), some (28, true)⟩, .bool),
                      (⟨(some 33), .pick (.tmp 28) (.tmp 32) (.const (.bool false)), none⟩, .bool)]) <|
                .cond (.tmp 33)
                  (.reg [(⟨(some 34), .move (.tmp 6), none⟩, .any),
                    (⟨(some 35), .move (.tmp 8), none⟩, (.int .i64)),
                    (⟨(some 36), .idxSlice 1 (.tmp 34) (.tmp 35), none⟩, .ptr),
                    (⟨none, .store 1 (.tmp 36) (.const (.int .u8 1)), none⟩, .any)])
                  (.skip)) <|
          .reg [(⟨(some 37), .bin .add (.tmp 22) (.const (.int .i64 1)), none⟩, (.int .i64)),
            (⟨(some 22), .move (.tmp 37), none⟩, (.int .i64))]) <|
  .seq (.cutn [] <|
      .seq (.reg [(⟨(some 38), .move (.tmp 0), none⟩, .ptr),
          (⟨(some 39), .nilCheck (.tmp 38), none⟩, .ptr),
          (⟨(some 40), .fieldAddr 1 (.tmp 39), none⟩, .ptr),
          (⟨(some 41), .load false 1 (.tmp 40), none⟩, .any),
          (⟨(some 42), .lenS (.tmp 41), none⟩, (.int .i64)),
          (⟨(some 43), .move (.const (.int .i64 0)), none⟩, (.int .i64))]) <|
      .block 2 <|
        .loop [(43, (.int .i64))] <|
          .seq (.reg [(⟨(some 44), .bin .lss (.tmp 43) (.tmp 42), none⟩, .any)]) <|
          .seq (.cond (.tmp 44)
              (.skip)
              (.exit 2)) <|
          .seq (.cutn [] <|
              .block 3 <|
                .seq (.reg [(⟨(some 45), .move (.tmp 43), none⟩, (.int .i64)),
                    (⟨(some 46), .idxSlice 65 (.tmp 41) (.tmp 43), none⟩, .ptr),
                    (⟨(some 47), .load true 65 (.tmp 46), none⟩, .any),
                    (⟨(some 10), .alloc [(.int .i64 0), (.int .u8 0), (.int .u8 0), (.int .u8 0), (.int .u8 0), (.int .u8 0), (.int .u8 0), (.int .u8 0), (.int .u8 0), (.int .u8 0), (.int .u8 0), (.int .u8 0), (.int .u8 0), (.int .u8 0), (.int .u8 0), (.int .u8 0), (.int .u8 0), (.int .u8 0), (.int .u8 0), (.int .u8 0), (.int .u8 0), (.int .u8 0), (.int .u8 0), (.int .u8 0), (.int .u8 0), (.int .u8 0), (.int .u8 0), (.int .u8 0), (.int .u8 0), (.int .u8 0), (.int .u8 0), (.int .u8 0), (.int .u8 0), (.int .u8 0), (.int .u8 0), (.int .u8 0), (.int .u8 0), (.int .u8 0), (.int .u8 0), (.int .u8 0), (.int .u8 0), (.int .u8 0), (.int .u8 0), (.int .u8 0), (.int .u8 0), (.int .u8 0), (.int .u8 0), (.int .u8 0), (.int .u8 0), (.int .u8 0), (.int .u8 0), (.int .u8 0), (.int .u8 0), (.int .u8 0), (.int .u8 0), (.int .u8 0), (.int .u8 0), (.int .u8 0), (.int .u8 0), (.int .u8 0), (.int .u8 0), (.int .u8 0), (.int .u8 0), (.int .u8 0), (.int .u8 0)], none⟩, .ptr),
                    (⟨(some 9), .move (.tmp 45), none⟩, (.int .i64)),
                    (⟨none, .store 65 (.tmp 10) (.tmp 47), none⟩, .any)]) <|
                .seq (.reg [(⟨(some 48), .move (.tmp 6), none⟩, .any),
                    (⟨(some 49), .move (.tmp 9), none⟩, (.int .i64)),
                    (⟨(some 50), .idxSlice 1 (.tmp 48) (.tmp 49), none⟩, .ptr),
                    (⟨(some 51), .load false 1 (.tmp 50), none⟩, (.int .u8)),
                    (⟨(some 52), .bin .eql (.tmp 51) (.const (.int .u8 1)), none⟩, .bool)]) <|
                .cond (.tmp 52)
                  (.regd [(⟨0, [], false, ⟨(some 53), .move (.tmp 0), none⟩⟩, .ptr),
                    (⟨1, [0], false, ⟨(some 54), .nilCheck (.tmp 53), none⟩⟩, .ptr),
                    (⟨2, [1, 0], false, ⟨(some 55), .fieldAddr 0 (.tmp 54), none⟩⟩, .ptr),
                    (⟨3, [2, 1, 0], false, ⟨(some 56), .load false 1 (.tmp 55), none⟩⟩, .any),
                    (⟨4, [], false, ⟨(some 57), .fieldAddr 0 (.tmp 10), none⟩⟩, .ptr),
                    (⟨5, [4], false, ⟨(some 58), .load false 1 (.tmp 57), none⟩⟩, (.int .i64)),
                    (⟨6, [], false, ⟨(some 59), .fieldAddr 1 (.tmp 10), none⟩⟩, .ptr),
                    (⟨7, [6], false, ⟨(some 60), .load true 64 (.tmp 59), none⟩⟩, .any),
                    (⟨8, [3, 5, 0, 1, 2, 4, 6, 7], false, ⟨(some 61), .idxSlice 64 (.tmp 56) (.tmp 58), none⟩⟩, .ptr),
                    (⟨9, [8, 7, 0, 1, 2, 3, 4, 5, 6], true, ⟨none, .store 64 (.tmp 61) (.tmp 60), none⟩⟩, .any)])
                  (.skip)) <|
          .reg [(⟨(some 62), .bin .add (.tmp 43) (.const (.int .i64 1)), none⟩, (.int .i64)),
            (⟨(some 43), .move (.tmp 62), none⟩, (.int .i64))]) <|
  .seq (.reg [(⟨(some 63), .move (.tmp 0), none⟩, .ptr),
      (⟨(some 64), .nilCheck (.tmp 63), none⟩, .ptr),
      (⟨(some 65), .fieldAddr 1 (.tmp 64), none⟩, .ptr),
      (⟨(some 66), .load false 1 (.tmp 65), none⟩, .any),
      (⟨(some 67), .lenS (.tmp 66), none⟩, (.int .i64)),
      (⟨(some 11), .move (.tmp 67), none⟩, (.int .i64))]) <|
  .seq (.reg [(⟨(some 68), .move (.tmp 0), none⟩, .ptr),
      (⟨(some 69), .nilCheck (.tmp 68), none⟩, .ptr),
      (⟨(some 70), .fieldAddr 1 (.tmp 69), none⟩, .ptr),
      (⟨none, .store 1 (.tmp 70) (.const (.slice none 0 0)), none⟩, .any)]) <|
  .seq (.reg [(⟨(some 71), .move (.tmp 11), none⟩, (.int .i64)),
      (⟨(some 4), .move (.tmp 71), none⟩, (.int .i64)),
      (⟨(some 5), .move (.const (.int .i64 0)), none⟩, (.int .i64))]) <|
  .ret
def f_sector_Disk_Crash_L15 (n : Nat) (u1 : Value) (p3 : (Value × AObj)) (n5 : Nat) (v6 : Int) (h7 : Heap) : Option (((Int × Unit) × Heap) ⊕ ((Unit) × Heap)) :=
  bif (decide (v6 < (n5 : Int))) then
    ((((ixB 1 u1 v6).bind fun q8 =>
      (ldT (.int .i64) h7 (some q8)).bind fun x9 =>
      ((bif (decide (0 ≤ x9)) then
          ((lenB p3.1).bind fun n10 =>
          some (((decide (x9 < (n10 : Int))), ()), h7))
        else
          (some ((false, ()), h7))) : Option ((Bool × Unit) × Heap)).bind fun a11 =>
      bif a11.1.1 then
        ((ixB 1 p3.1 x9).bind fun q12 =>
        (stB 1 (.int .u8 1) a11.2 (some q12)).bind fun h13 =>
        some ((), h13))
      else
        (some ((), a11.2))) : Option ((Unit) × Heap)).bind fun a14 =>
    some (.inl (((IntKind.i64.wrap (v6 + 1)), ()), a14.2)))
  else
    (some (.inr ((), h7)))
def f_sector_Disk_Crash_L35 (n : Nat) (u0 : Option Addr) (p3 : (Value × AObj)) (x18 : Value) (n19 : Nat) (v20 : Int) (h21 : Heap) : Option (((Int × Unit) × Heap) ⊕ ((Unit) × Heap)) :=
  bif (decide (v20 < (n19 : Int))) then
    ((((ixB 65 x18 v20).bind fun q22 =>
      (ldA 65 h21 (some q22)).bind fun cs23 =>
      bnd ((Heap.new h21 (.cells [(.int .i64 0), (.int .u8 0), (.int .u8 0), (.int .u8 0), (.int .u8 0), (.int .u8 0), (.int .u8 0), (.int .u8 0), (.int .u8 0), (.int .u8 0), (.int .u8 0), (.int .u8 0), (.int .u8 0), (.int .u8 0), (.int .u8 0), (.int .u8 0), (.int .u8 0), (.int .u8 0), (.int .u8 0), (.int .u8 0), (.int .u8 0), (.int .u8 0), (.int .u8 0), (.int .u8 0), (.int .u8 0), (.int .u8 0), (.int .u8 0), (.int .u8 0), (.int .u8 0), (.int .u8 0), (.int .u8 0), (.int .u8 0), (.int .u8 0), (.int .u8 0), (.int .u8 0), (.int .u8 0), (.int .u8 0), (.int .u8 0), (.int .u8 0), (.int .u8 0), (.int .u8 0), (.int .u8 0), (.int .u8 0), (.int .u8 0), (.int .u8 0), (.int .u8 0), (.int .u8 0), (.int .u8 0), (.int .u8 0), (.int .u8 0), (.int .u8 0), (.int .u8 0), (.int .u8 0), (.int .u8 0), (.int .u8 0), (.int .u8 0), (.int .u8 0), (.int .u8 0), (.int .u8 0), (.int .u8 0), (.int .u8 0), (.int .u8 0), (.int .u8 0), (.int .u8 0), (.int .u8 0)] false 0))) fun h24 =>
      (stB 65 (.agg ⟨cs23⟩) h24 (some (nwA h21))).bind fun h25 =>
      (ixB 1 p3.1 v20).bind fun q26 =>
      (ldT (.int .u8) h25 (some q26)).bind fun x27 =>
      bif (decide (x27 = 1)) then
        ((u0).bind fun q28 =>
        (ldT .any h25 (some (fa q28 0))).bind fun x29 =>
        (ldT (.int .i64) h25 (some (fa (nwA h21) 0))).bind fun x30 =>
        (ldA 64 h25 (some (fa (nwA h21) 1))).bind fun cs31 =>
        (ixB 64 x29 x30).bind fun q32 =>
        (stB 64 (.agg ⟨cs31⟩) h25 (some q32)).bind fun h33 =>
        some ((), h33))
      else
        (some ((), h25))) : Option ((Unit) × Heap)).bind fun a34 =>
    some (.inl (((IntKind.i64.wrap (v20 + 1)), ()), a34.2)))
  else
    (some (.inr ((), h21)))
noncomputable def sf_sector_Disk_Crash (n : Nat) : Sf := sfOf []
noncomputable def it_sector_Disk_Crash (n : Nat) : It := itOf []
def f_sector_Disk_Crash (n : Nat) (u0 : Option Addr) (u1 : Value) (h : Heap) : Option ((Int × Int × Unit) × Heap) :=
  bif (Option.isNone u0) then
    (some ((0, (1, ())), h))
  else
    ((u0).bind fun q0 =>
    (ldT .any h (some (fa q0 1))).bind fun x1 =>
    (lenB x1).bind fun n2 =>
    (mkSl (Heap.next h) 1 1 [(.int .u8 0)] (.int .i64 (n2 : Int)) (.int .i64 (n2 : Int))).bind fun p3 =>
    bnd ((Heap.new h (p3.2))) fun h4 =>
    (((lenB u1).bind fun n5 =>
      loopT (fun a => f_sector_Disk_Crash_L15 n u1 p3 n5 a.1.1 a.2) n ((0, ()), h4)) : Option ((Unit) × Heap)).bind fun a16 =>
    (((u0).bind fun q17 =>
      (ldT .any a16.2 (some (fa q17 1))).bind fun x18 =>
      (lenB x18).bind fun n19 =>
      loopT (fun a => f_sector_Disk_Crash_L35 n u0 p3 x18 n19 a.1.1 a.2) n ((0, ()), a16.2)) : Option ((Unit) × Heap)).bind fun a36 =>
    (u0).bind fun q37 =>
    (ldT .any a36.2 (some (fa q37 1))).bind fun x38 =>
    (lenB x38).bind fun n39 =>
    (u0).bind fun q40 =>
    (stB 1 (.slice none 0 0) a36.2 (some (fa q40 1))).bind fun h41 =>
    some (((n39 : Int), (0, ())), h41))
def rs_sector_Disk_Crash : Rs := [(.tmp 4, (.int .i64)), (.tmp 5, (.int .i64))]
def ps_sector_Disk_Crash : List Ty := [.ptr, .any]
theorem e_sector_Disk_Crash (n : Nat) (u0 : Option Addr) (u1 : Value) (h : Heap) : f_sector_Disk_Crash n u0 u1 h = fB (sf_sector_Disk_Crash n) (it_sector_Disk_Crash n) n c2_sector_Disk_Crash rs_sector_Disk_Crash ps_sector_Disk_Crash (u0, (u1, ())) h := by kernel_rfl
noncomputable def s_sector_Disk_Crash (n : Nat) : Sf1 := mkSf ps_sector_Disk_Crash rs_sector_Disk_Crash fun a h => f_sector_Disk_Crash n a.1 a.2.1 h

/- slices.Clone[[]wicket/sector.data,wicket/sector.data] -/
def c2_slices_Clone_sector_data_sector_data : C2 :=
  .seq (.reg [(⟨(some 2), .move (.const (.slice none 0 0)), none⟩, .any)]) <|
  .seq (.seq (.reg [(⟨(some 3), .move (.tmp 0), none⟩, .any),
        (⟨(some 4), .eqv false .slice (.tmp 3) (.const (.slice none 0 0)), none⟩, .bool)]) <|
    .cond (.tmp 4)
      (.seq (.reg [(⟨(some 2), .move (.const (.slice none 0 0)), none⟩, .any)]) <|
      .ret)
      (.skip)) <|
  .seq (.reg [(⟨(some 5), .buildSlice 0 64 [] [], none⟩, .any),
      (⟨(some 6), .move (.tmp 0), none⟩, .any),
      (⟨(some 7), .append 64 64 (.tmp 5) (.tmp 6), none⟩, .any),
      (⟨(some 2), .move (.tmp 7), none⟩, .any)]) <|
  .ret
noncomputable def sf_slices_Clone_sector_data_sector_data (n : Nat) : Sf := sfOf []
noncomputable def it_slices_Clone_sector_data_sector_data (n : Nat) : It := itOf []
def f_slices_Clone_sector_data_sector_data (n : Nat) (u0 : Value) (h : Heap) : Option ((Value × Unit) × Heap) :=
  (eqVals h .slice u0 (.slice none 0 0)).bind fun b0 =>
  bif b0 then
    (some (((.slice none 0 0), ()), h))
  else
    ((fillL [] []).bind fun cs1 =>
    bnd ((Heap.new h (.cells cs1 false 64))) fun h2 =>
    (appendK h2 64 64 (.slice (some ⟨Heap.next h, 0, some 0⟩) 0 0) u0).bind fun p3 =>
    bif !isTuple p3.1 then
      (some ((p3.1, ()), p3.2))
    else
      (none))
def rs_slices_Clone_sector_data_sector_data : Rs := [(.tmp 2, .any)]
def ps_slices_Clone_sector_data_sector_data : List Ty := [.any]
theorem e_slices_Clone_sector_data_sector_data (n : Nat) (u0 : Value) (h : Heap) : f_slices_Clone_sector_data_sector_data n u0 h = fB (sf_slices_Clone_sector_data_sector_data n) (it_slices_Clone_sector_data_sector_data n) n c2_slices_Clone_sector_data_sector_data rs_slices_Clone_sector_data_sector_data ps_slices_Clone_sector_data_sector_data (u0, ()) h := by kernel_rfl
noncomputable def s_slices_Clone_sector_data_sector_data (n : Nat) : Sf1 := mkSf ps_slices_Clone_sector_data_sector_data rs_slices_Clone_sector_data_sector_data fun a h => f_slices_Clone_sector_data_sector_data n a.1 h

/- slices.Clone[[]wicket/sector.waiting,wicket/sector.waiting] -/
def c2_slices_Clone_sector_waiting_sector_waiting : C2 :=
  .seq (.reg [(⟨(some 2), .move (.const (.slice none 0 0)), none⟩, .any)]) <|
  .seq (.seq (.reg [(⟨(some 3), .move (.tmp 0), none⟩, .any),
        (⟨(some 4), .eqv false .slice (.tmp 3) (.const (.slice none 0 0)), none⟩, .bool)]) <|
    .cond (.tmp 4)
      (.seq (.reg [(⟨(some 2), .move (.const (.slice none 0 0)), none⟩, .any)]) <|
      .ret)
      (.skip)) <|
  .seq (.reg [(⟨(some 5), .buildSlice 0 65 [] [], none⟩, .any),
      (⟨(some 6), .move (.tmp 0), none⟩, .any),
      (⟨(some 7), .append 72 65 (.tmp 5) (.tmp 6), none⟩, .any),
      (⟨(some 2), .move (.tmp 7), none⟩, .any)]) <|
  .ret
noncomputable def sf_slices_Clone_sector_waiting_sector_waiting (n : Nat) : Sf := sfOf []
noncomputable def it_slices_Clone_sector_waiting_sector_waiting (n : Nat) : It := itOf []
def f_slices_Clone_sector_waiting_sector_waiting (n : Nat) (u0 : Value) (h : Heap) : Option ((Value × Unit) × Heap) :=
  (eqVals h .slice u0 (.slice none 0 0)).bind fun b0 =>
  bif b0 then
    (some (((.slice none 0 0), ()), h))
  else
    ((fillL [] []).bind fun cs1 =>
    bnd ((Heap.new h (.cells cs1 false 65))) fun h2 =>
    (appendK h2 72 65 (.slice (some ⟨Heap.next h, 0, some 0⟩) 0 0) u0).bind fun p3 =>
    bif !isTuple p3.1 then
      (some ((p3.1, ()), p3.2))
    else
      (none))
def rs_slices_Clone_sector_waiting_sector_waiting : Rs := [(.tmp 2, .any)]
def ps_slices_Clone_sector_waiting_sector_waiting : List Ty := [.any]
theorem e_slices_Clone_sector_waiting_sector_waiting (n : Nat) (u0 : Value) (h : Heap) : f_slices_Clone_sector_waiting_sector_waiting n u0 h = fB (sf_slices_Clone_sector_waiting_sector_waiting n) (it_slices_Clone_sector_waiting_sector_waiting n) n c2_slices_Clone_sector_waiting_sector_waiting rs_slices_Clone_sector_waiting_sector_waiting ps_slices_Clone_sector_waiting_sector_waiting (u0, ()) h := by kernel_rfl
noncomputable def s_slices_Clone_sector_waiting_sector_waiting (n : Nat) : Sf1 := mkSf ps_slices_Clone_sector_waiting_sector_waiting rs_slices_Clone_sector_waiting_sector_waiting fun a h => f_slices_Clone_sector_waiting_sector_waiting n a.1 h

/- wicket/wicketlaw04.own -/
def c2_wicketlaw04_own : C2 :=
  .seq (.reg [(⟨(some 2), .move (.const (.slice none 0 0)), none⟩, .any)]) <|
  .seq (.reg [(⟨(some 3), .buildSlice 0 1 [] [], none⟩, .any),
      (⟨(some 4), .move (.tmp 0), none⟩, .any),
      (⟨(some 5), .append 1 1 (.tmp 3) (.tmp 4), none⟩, .any),
      (⟨(some 2), .move (.tmp 5), none⟩, .any)]) <|
  .ret
noncomputable def sf_wicketlaw04_own (n : Nat) : Sf := sfOf []
noncomputable def it_wicketlaw04_own (n : Nat) : It := itOf []
def f_wicketlaw04_own (n : Nat) (u0 : Value) (h : Heap) : Option ((Value × Unit) × Heap) :=
  (fillL [] []).bind fun cs0 =>
  bnd ((Heap.new h (.cells cs0 false 1))) fun h1 =>
  (appendK h1 1 1 (.slice (some ⟨Heap.next h, 0, some 0⟩) 0 0) u0).bind fun p2 =>
  bif !isTuple p2.1 then
    (some ((p2.1, ()), p2.2))
  else
    (none)
def rs_wicketlaw04_own : Rs := [(.tmp 2, .any)]
def ps_wicketlaw04_own : List Ty := [.any]
theorem e_wicketlaw04_own (n : Nat) (u0 : Value) (h : Heap) : f_wicketlaw04_own n u0 h = fB (sf_wicketlaw04_own n) (it_wicketlaw04_own n) n c2_wicketlaw04_own rs_wicketlaw04_own ps_wicketlaw04_own (u0, ()) h := by kernel_rfl
noncomputable def s_wicketlaw04_own (n : Nat) : Sf1 := mkSf ps_wicketlaw04_own rs_wicketlaw04_own fun a h => f_wicketlaw04_own n a.1 h

/- wicket/wicketlaw04.marked -/
def c2_wicketlaw04_marked : C2 :=
  .seq (.reg [(⟨(some 2), .move (.const (.slice none 0 0)), none⟩, .any)]) <|
  .seq (.reg [(⟨(some 4), .move (.tmp 0), none⟩, .any),
      (⟨(some 5), .call k_wicketlaw04_own [(.tmp 4)], none⟩, .any),
      (⟨(some 6), .buildSlice 2 1 [(.int .u8 0), (.int .u8 0)] [(0, 1, (.const (.int .u8 90))), (1, 1, (.const (.int .u8 90)))], none⟩, .any),
      (⟨(some 7), .append 1 1 (.tmp 5) (.tmp 6), none⟩, .any),
      (⟨(some 3), .move (.tmp 7), none⟩, .any)]) <|
  .seq (.reg [(⟨(some 8), .move (.tmp 3), none⟩, .any),
      (⟨(some 9), .move (.tmp 0), none⟩, .any),
      (⟨(some 10), .lenS (.tmp 9), none⟩, (.int .i64)),
      (⟨(some 11), .slice 1 (.tmp 8) none (some (.tmp 10)) none, none⟩, .any),
      (⟨(some 2), .move (.tmp 11), none⟩, .any)]) <|
  .ret
noncomputable def sf_wicketlaw04_marked (n : Nat) : Sf := sfOf [(k_wicketlaw04_own, s_wicketlaw04_own n)]
noncomputable def it_wicketlaw04_marked (n : Nat) : It := itOf []
def f_wicketlaw04_marked (n : Nat) (u0 : Value) (h : Heap) : Option ((Value × Unit) × Heap) :=
  (f_wicketlaw04_own n u0 h).bind fun p0 =>
  (fillL [(.int .u8 0), (.int .u8 0)] [(0, 1, (.int .u8 90)), (1, 1, (.int .u8 90))]).bind fun cs1 =>
  bnd ((Heap.new p0.2 (.cells cs1 false 1))) fun h2 =>
  (appendK h2 1 1 p0.1.1 (.slice (some ⟨Heap.next p0.2, 0, some 0⟩) 2 2)).bind fun p3 =>
  (lenB u0).bind fun n4 =>
  (sliceK p3.2 1 none (some (.int .i64 (n4 : Int))) none p3.1).bind fun p5 =>
  bif !isTuple p5.1 then
    (some ((p5.1, ()), p3.2))
  else
    (none)
def rs_wicketlaw04_marked : Rs := [(.tmp 2, .any)]
def ps_wicketlaw04_marked : List Ty := [.any]
theorem e_wicketlaw04_marked (n : Nat) (u0 : Value) (h : Heap) : f_wicketlaw04_marked n u0 h = fB (sf_wicketlaw04_marked n) (it_wicketlaw04_marked n) n c2_wicketlaw04_marked rs_wicketlaw04_marked ps_wicketlaw04_marked (u0, ()) h := by kernel_rfl
noncomputable def s_wicketlaw04_marked (n : Nat) : Sf1 := mkSf ps_wicketlaw04_marked rs_wicketlaw04_marked fun a h => f_wicketlaw04_marked n a.1 h

/- wicket/wicketlaw04.held -/
def c2_wicketlaw04_held : C2 :=
  .seq (.reg [(⟨(some 4), .move (.const (.bool false)), none⟩, .bool)]) <|
  .seq (.reg [(⟨(some 6), .move (.tmp 0), none⟩, .any),
      (⟨(some 7), .move (.tmp 1), none⟩, .any),
      (⟨(some 8), .lenS (.tmp 7), none⟩, (.int .i64)),
      (⟨(some 9), .bin .add (.tmp 8) (.const (.int .i64 2)), none⟩, (.int .i64)),
      (⟨(some 10), .slice 1 (.tmp 6) none (some (.tmp 9)) none, none⟩, .any),
      (⟨(some 5), .move (.tmp 10), none⟩, .any)]) <|
  .seq (.regd [(⟨0, [], false, ⟨(some 11), .move (.tmp 5), none⟩⟩, .any),
      (⟨1, [], false, ⟨(some 12), .move (.tmp 1), none⟩⟩, .any),
      (⟨2, [1], false, ⟨(some 13), .lenS (.tmp 12), none⟩⟩, (.int .i64)),
      (⟨3, [0, 2, 1], false, ⟨(some 14), .slice 1 (.tmp 11) none (some (.tmp 13)) none, none⟩⟩, .any),
      (⟨4, [3, 0, 2, 1], false, ⟨(some 15), .toStr (.tmp 14), none⟩⟩, .any),
      (⟨5, [], false, ⟨(some 16), .move (.tmp 1), none⟩⟩, .any),
      (⟨6, [5], false, ⟨(some 17), .toStr (.tmp 16), none⟩⟩, .any),
      (⟨7, [4, 6, 3, 0, 2, 1, 5], false, ⟨(some 18), .bins .eql (.tmp 15) (.tmp 17), none⟩⟩, .bool),
      (⟨8, [7, 4, 6, 3, 0, 2, 1, 5], false, ⟨(some 19), .move (.tmp 18), none⟩⟩, .bool),
      (⟨9, [8, 7, 4, 6, 3, 0, 2, 1, 5], false, ⟨(some 20), .move (.tmp 5), some (19, true)⟩⟩, .any),
      (⟨10, [8, 7, 4, 6, 3, 0, 2, 1, 5], false, ⟨(some 21), .move (.tmp 1), some (19, true)⟩⟩, .any),
      (⟨11, [10, 8, 7, 4, 6, 3, 0, 2, 1, 5], false, ⟨(some 22), .lenS (.tmp 21), some (19, true)⟩⟩, (.int .i64)),
      (⟨12, [9, 11, 8, 7, 4, 6, 3, 0, 2, 1, 5, 10], false, ⟨(some 23), .idxSlice 1 (.tmp 20) (.tmp 22), some (19, true)⟩⟩, .ptr),
      (⟨13, [12, 8, 9, 11, 7, 4, 6, 3, 0, 2, 1, 5, 10], false, ⟨(some 24), .load false 1 (.tmp 23), some (19, true)⟩⟩, (.int .u8)),
      (⟨14, [13, 8, 12, 9, 11, 7, 4, 6, 3, 0, 2, 1, 5, 10], false, ⟨(some 25), .bin .eql (.tmp 24) (.const (.int .u8 90)), some (19, true)⟩⟩, .bool),
      (⟨15, [8, 14, 7, 4, 6, 3, 0, 2, 1, 5, 13, 12, 9, 11, 10], false, ⟨(some 26), .pick (.tmp 19) (.tmp 25) (.const (.bool false)), none⟩⟩, .bool),
      (⟨16, [15, 8, 14, 7, 4, 6, 3, 0, 2, 1, 5, 13, 12, 9, 11, 10], false, ⟨(some 27), .move (.tmp 26), none⟩⟩, .bool),
      (⟨17, [16, 15, 8, 14, 7, 4, 6, 3, 0, 2, 1, 5, 13, 12, 9, 11, 10], false, ⟨(some 28), .move (.tmp 5), some (27, true)⟩⟩, .any),
      (⟨18, [16, 15, 8, 14, 7, 4, 6, 3, 0, 2, 1, 5, 13, 12, 9, 11, 10], false, ⟨(some 29), .move (.tmp 1), some (27, true)⟩⟩, .any),
      (⟨19, [18, 16, 15, 8, 14, 7, 4, 6, 3, 0, 2, 1, 5, 13, 12, 9, 11, 10], false, ⟨(some 30), .lenS (.tmp 29), some (27, true)⟩⟩, (.int .i64)),
      (⟨20, [19, 16, 18, 15, 8, 14, 7, 4, 6, 3, 0, 2, 1, 5, 13, 12, 9, 11, 10], false, ⟨(some 31), .bin .add (.tmp 30) (.const (.int .i64 1)), some (27, true)⟩⟩, (.int .i64)),
      (⟨21, [17, 20, 16, 15, 8, 14, 7, 4, 6, 3, 0, 2, 1, 5, 13, 12, 9, 11, 10, 19, 18], false, ⟨(some 32), .idxSlice 1 (.tmp 28) (.tmp 31), some (27, true)⟩⟩, .ptr),
      (⟨22, [21, 16, 17, 20, 15, 8, 14, 7, 4, 6, 3, 0, 2, 1, 5, 13, 12, 9, 11, 10, 19, 18], false, ⟨(some 33), .load false 1 (.tmp 32), some (27, true)⟩⟩, (.int .u8)),
      (⟨23, [22, 16, 21, 17, 20, 15, 8, 14, 7, 4, 6, 3, 0, 2, 1, 5, 13, 12, 9, 11, 10, 19, 18], false, ⟨(some 34), .bin .eql (.tmp 33) (.const (.int .u8 90)), some (27, true)⟩⟩, .bool),
      (⟨24, [16, 23, 15, 8, 14, 7, 4, 6, 3, 0, 2, 1, 5, 13, 12, 9, 11, 10, 22, 21, 17, 20, 19, 18], false, ⟨(some 35), .pick (.tmp 27) (.tmp 34) (.const (.bool false)), none⟩⟩, .bool),
      (⟨25, [24, 16, 0, 1, 2, 3, 4, 5, 6, 7, 8, 9, 10, 11, 12, 13, 14, 15, 17, 18, 19, 20, 21, 22, 23], false, ⟨(some 4), .move (.tmp 35), none⟩⟩, .bool)]) <|
  .ret
noncomputable def sf_wicketlaw04_held (n : Nat) : Sf := sfOf []
noncomputable def it_wicketlaw04_held (n : Nat) : It := itOf []
def f_wicketlaw04_held (n : Nat) (u0 : Value) (u1 : Value) (h : Heap) : Option ((Bool × Unit) × Heap) :=
  (lenB u1).bind fun n0 =>
  (sliceK h 1 none (some (.int .i64 (IntKind.i64.wrap ((n0 : Int) + 2)))) none u0).bind fun p1 =>
  (lenB u1).bind fun n2 =>
  (sliceK h 1 none (some (.int .i64 (n2 : Int))) none p1.1).bind fun p3 =>
  (toStrK h p3.1).bind fun p4 =>
  (toStrK h u1).bind fun p5 =>
  (binsT .bool h .eql p4.1 p5.1).bind fun x6 =>
  bif x6 then
    ((lenB u1).bind fun n7 =>
    (ixB 1 p1.1 (n7 : Int)).bind fun q8 =>
    (ldT (.int .u8) h (some q8)).bind fun x9 =>
    bif (decide (x9 = 90)) then
      ((lenB u1).bind fun n10 =>
      (ixB 1 p1.1 (IntKind.i64.wrap ((n10 : Int) + 1))).bind fun q11 =>
      (ldT (.int .u8) h (some q11)).bind fun x12 =>
      some (((decide (x12 = 90)), ()), h))
    else
      (some ((false, ()), h)))
  else
    (some ((false, ()), h))
def rs_wicketlaw04_held : Rs := [(.tmp 4, .bool)]
def ps_wicketlaw04_held : List Ty := [.any, .any]
theorem e_wicketlaw04_held (n : Nat) (u0 : Value) (u1 : Value) (h : Heap) : f_wicketlaw04_held n u0 u1 h = fB (sf_wicketlaw04_held n) (it_wicketlaw04_held n) n c2_wicketlaw04_held rs_wicketlaw04_held ps_wicketlaw04_held (u0, (u1, ())) h := by kernel_rfl
noncomputable def s_wicketlaw04_held (n : Nat) : Sf1 := mkSf ps_wicketlaw04_held rs_wicketlaw04_held fun a h => f_wicketlaw04_held n a.1 a.2.1 h

/- (*wicket/sector.Disk).Flush -/
def c2_sector_Disk_Flush : C2 :=
  .seq (.reg [(⟨(some 2), .move (.const (.int .i64 0)), none⟩, (.int .i64)),
      (⟨(some 3), .move (.const (.int .i64 0)), none⟩, (.int .i64))]) <|
  .seq (.seq (.reg [(⟨(some 7), .move (.tmp 0), none⟩, .ptr),
        (⟨(some 8), .eqv false .ptr (.tmp 7) (.const (.pointer none)), none⟩, .bool)]) <|
    .cond (.tmp 8)
      (.seq (.reg [(⟨(some 2), .move (.const (.int .i64 0)), none⟩, (.int .i64)),
          (⟨(some 3), .move (.const (.int .i64 1)), none⟩, (.int .i64))]) <|
      .ret)
      (.skip)) <|
  .seq (.cutn [] <|
      .seq (.reg [(⟨(some 9), .move (.tmp 0), none⟩, .ptr),
          (⟨(some 10), .nilCheck (.tmp 9), none⟩, .ptr),
          (⟨(some 11), .fieldAddr 1 (.tmp 10), none⟩, .ptr),
          (⟨(some 12), .load false 1 (.tmp 11), none⟩, .any),
          (⟨(some 13), .lenS (.tmp 12), none⟩, (.int .i64)),
          (⟨(some 14), .move (.const (.int .i64 0)), none⟩, (.int .i64))]) <|
      .block 0 <|
        .loop [(14, (.int .i64))] <|
          .seq (.reg [(⟨(some 15), .bin .lss (.tmp 14) (.tmp 13), none⟩, .any)]) <|
          .seq (.cond (.tmp 15)
              (.skip)
              (.exit 0)) <|
          .seq (.block 1 <|
              .seq (.reg [(⟨(some 16), .idxSlice 65 (.tmp 12) (.tmp 14), none⟩, .ptr),
                  (⟨(some 17), .load true 65 (.tmp 16), none⟩, .any),
                  (⟨(some 5), .alloc [(.int .i64 0), (.int .u8 0), (.int .u8 0), (.int .u8 0), (.int .u8 0), (.int .u8 0), (.int .u8 0), (.int .u8 0), (.int .u8 0), (.int .u8 0), (.int .u8 0), (.int .u8 0), (.int .u8 0), (.int .u8 0), (.int .u8 0), (.int .u8 0), (.int .u8 0), (.int .u8 0), (.int .u8 0), (.int .u8 0), (.int .u8 0), (.int .u8 0), (.int .u8 0), (.int .u8 0), (.int .u8 0), (.int .u8 0), (.int .u8 0), (.int .u8 0), (.int .u8 0), (.int .u8 0), (.int .u8 0), (.int .u8 0), (.int .u8 0), (.int .u8 0), (.int .u8 0), (.int .u8 0), (.int .u8 0), (.int .u8 0), (.int .u8 0), (.int .u8 0), (.int .u8 0), (.int .u8 0), (.int .u8 0), (.int .u8 0), (.int .u8 0), (.int .u8 0), (.int .u8 0), (.int .u8 0), (.int .u8 0), (.int .u8 0), (.int .u8 0), (.int .u8 0), (.int .u8 0), (.int .u8 0), (.int .u8 0), (.int .u8 0), (.int .u8 0), (.int .u8 0), (.int .u8 0), (.int .u8 0), (.int .u8 0), (.int .u8 0), (.int .u8 0), (.int .u8 0), (.int .u8 0)], none⟩, .ptr),
                  (⟨none, .store 65 (.tmp 5) (.tmp 17), none⟩, .any)]) <|
              .regd [(⟨0, [], false, ⟨(some 18), .move (.tmp 0), none⟩⟩, .ptr),
                (⟨1, [0], false, ⟨(some 19), .nilCheck (.tmp 18), none⟩⟩, .ptr),
                (⟨2, [1, 0], false, ⟨(some 20), .fieldAddr 0 (.tmp 19), none⟩⟩, .ptr),
                (⟨3, [2, 1, 0], false, ⟨(some 21), .load false 1 (.tmp 20), none⟩⟩, .any),
                (⟨4, [], false, ⟨(some 22), .fieldAddr 0 (.tmp 5), none⟩⟩, .ptr),
                (⟨5, [4], false, ⟨(some 23), .load false 1 (.tmp 22), none⟩⟩, (.int .i64)),
                (⟨6, [], false, ⟨(some 24), .fieldAddr 1 (.tmp 5), none⟩⟩, .ptr),
                (⟨7, [6], false, ⟨(some 25), .load true 64 (.tmp 24), none⟩⟩, .any),
                (⟨8, [3, 5, 0, 1, 2, 4, 6, 7], false, ⟨(some 26), .idxSlice 64 (.tmp 21) (.tmp 23), none⟩⟩, .ptr),
                (⟨9, [8, 7, 0, 1, 2, 3, 4, 5, 6], true, ⟨none, .store 64 (.tmp 26) (.tmp 25), none⟩⟩, .any)]) <|
          .reg [(⟨(some 27), .bin .add (.tmp 14) (.const (.int .i64 1)), none⟩, (.int .i64)),
            (⟨(some 14), .move (.tmp 27), none⟩, (.int .i64))]) <|
  .seq (.reg [(⟨(some 28), .move (.tmp 0), none⟩, .ptr),
      (⟨(some 29), .nilCheck (.tmp 28), none⟩, .ptr),
      (⟨(some 30), .fieldAddr 1 (.tmp 29), none⟩, .ptr),
      (⟨(some 31), .load false 1 (.tmp 30), none⟩, .any),
      (⟨(some 32), .lenS (.tmp 31), none⟩, (.int .i64)),
      (⟨(some 6), .move (.tmp 32), none⟩, (.int .i64))]) <|
  .seq (.reg [(⟨(some 33), .move (.tmp 0), none⟩, .ptr),
      (⟨(some 34), .nilCheck (.tmp 33), none⟩, .ptr),
      (⟨(some 35), .fieldAddr 1 (.tmp 34), none⟩, .ptr),
      (⟨none, .store 1 (.tmp 35) (.const (.slice none 0 0)), none⟩, .any)]) <|
  .seq (.reg [(⟨(some 36), .move (.tmp 6), none⟩, (.int .i64)),
      (⟨(some 2), .move (.tmp 36), none⟩, (.int .i64)),
      (⟨(some 3), .move (.const (.int .i64 0)), none⟩, (.int .i64))]) <|
  .ret
def f_sector_Disk_Flush_L15 (n : Nat) (u0 : Option Addr) (x1 : Value) (n2 : Nat) (v3 : Int) (h4 : Heap) : Option (((Int × Unit) × Heap) ⊕ ((Unit) × Heap)) :=
  bif (decide (v3 < (n2 : Int))) then
    ((ixB 65 x1 v3).bind fun q5 =>
    (ldA 65 h4 (some q5)).bind fun cs6 =>
    bnd ((Heap.new h4 (.cells [(.int .i64 0), (.int .u8 0), (.int .u8 0), (.int .u8 0), (.int .u8 0), (.int .u8 0), (.int .u8 0), (.int .u8 0), (.int .u8 0), (.int .u8 0), (.int .u8 0), (.int .u8 0), (.int .u8 0), (.int .u8 0), (.int .u8 0), (.int .u8 0), (.int .u8 0), (.int .u8 0), (.int .u8 0), (.int .u8 0), (.int .u8 0), (.int .u8 0), (.int .u8 0), (.int .u8 0), (.int .u8 0), (.int .u8 0), (.int .u8 0), (.int .u8 0), (.int .u8 0), (.int .u8 0), (.int .u8 0), (.int .u8 0), (.int .u8 0), (.int .u8 0), (.int .u8 0), (.int .u8 0), (.int .u8 0), (.int .u8 0), (.int .u8 0), (.int .u8 0), (.int .u8 0), (.int .u8 0), (.int .u8 0), (.int .u8 0), (.int .u8 0), (.int .u8 0), (.int .u8 0), (.int .u8 0), (.int .u8 0), (.int .u8 0), (.int .u8 0), (.int .u8 0), (.int .u8 0), (.int .u8 0), (.int .u8 0), (.int .u8 0), (.int .u8 0), (.int .u8 0), (.int .u8 0), (.int .u8 0), (.int .u8 0), (.int .u8 0), (.int .u8 0), (.int .u8 0), (.int .u8 0)] false 0))) fun h7 =>
    (stB 65 (.agg ⟨cs6⟩) h7 (some (nwA h4))).bind fun h8 =>
    (u0).bind fun q9 =>
    (ldT .any h8 (some (fa q9 0))).bind fun x10 =>
    (ldT (.int .i64) h8 (some (fa (nwA h4) 0))).bind fun x11 =>
    (ldA 64 h8 (some (fa (nwA h4) 1))).bind fun cs12 =>
    (ixB 64 x10 x11).bind fun q13 =>
    (stB 64 (.agg ⟨cs12⟩) h8 (some q13)).bind fun h14 =>
    some (.inl (((IntKind.i64.wrap (v3 + 1)), ()), h14)))
  else
    (some (.inr ((), h4)))
noncomputable def sf_sector_Disk_Flush (n : Nat) : Sf := sfOf []
noncomputable def it_sector_Disk_Flush (n : Nat) : It := itOf []
def f_sector_Disk_Flush (n : Nat) (u0 : Option Addr) (h : Heap) : Option ((Int × Int × Unit) × Heap) :=
  bif (Option.isNone u0) then
    (some ((0, (1, ())), h))
  else
    ((((u0).bind fun q0 =>
      (ldT .any h (some (fa q0 1))).bind fun x1 =>
      (lenB x1).bind fun n2 =>
      loopT (fun a => f_sector_Disk_Flush_L15 n u0 x1 n2 a.1.1 a.2) n ((0, ()), h)) : Option ((Unit) × Heap)).bind fun a16 =>
    (u0).bind fun q17 =>
    (ldT .any a16.2 (some (fa q17 1))).bind fun x18 =>
    (lenB x18).bind fun n19 =>
    (u0).bind fun q20 =>
    (stB 1 (.slice none 0 0) a16.2 (some (fa q20 1))).bind fun h21 =>
    some (((n19 : Int), (0, ())), h21))
def rs_sector_Disk_Flush : Rs := [(.tmp 2, (.int .i64)), (.tmp 3, (.int .i64))]
def ps_sector_Disk_Flush : List Ty := [.ptr]
theorem e_sector_Disk_Flush (n : Nat) (u0 : Option Addr) (h : Heap) : f_sector_Disk_Flush n u0 h = fB (sf_sector_Disk_Flush n) (it_sector_Disk_Flush n) n c2_sector_Disk_Flush rs_sector_Disk_Flush ps_sector_Disk_Flush (u0, ()) h := by kernel_rfl
noncomputable def s_sector_Disk_Flush (n : Nat) : Sf1 := mkSf ps_sector_Disk_Flush rs_sector_Disk_Flush fun a h => f_sector_Disk_Flush n a.1 h

/- (*wicket/wicketref04.Disk).Crash -/
def c2_wicketref04_Disk_Crash : C2 :=
  .seq (.reg [(⟨(some 4), .move (.const (.int .i64 0)), none⟩, (.int .i64))]) <|
  .seq (.reg [(⟨(some 10), .move (.tmp 0), none⟩, .ptr),
      (⟨(some 11), .nilCheck (.tmp 10), none⟩, .ptr),
      (⟨(some 12), .fieldAddr 1 (.tmp 11), none⟩, .ptr),
      (⟨(some 13), .load false 1 (.tmp 12), none⟩, .any),
      (⟨(some 14), .lenS (.tmp 13), none⟩, (.int .i64)),
      (⟨(some 5), .move (.tmp 14), none⟩, (.int .i64))]) <|
  .seq (.cutn [] <|
      .seq (.reg [(⟨(some 6), .move (.const (.int .i64 0)), none⟩, (.int .i64))]) <|
      .block 0 <|
        .loop [(6, (.int .i64))] <|
          .seq (.seq (.reg [(⟨(some 15), .move (.tmp 6), none⟩, (.int .i64)),
                (⟨(some 16), .move (.tmp 5), none⟩, (.int .i64)),
                (⟨(some 17), .bin .lss (.tmp 15) (.tmp 16), none⟩, .bool)]) <|
            .cond (.tmp 17)
              (.skip)
              (.exit 0)) <|
          .seq (.cutn [] <|
              .block 1 <|
                .seq (.reg [(⟨(some 7), .move (.const (.int .i64 0)), none⟩, (.int .i64))]) <|
                .block 2 <|
                  .loop [(7, (.int .i64))] <|
                    .seq (.seq (.reg [(⟨(some 20), .move (.tmp 7), none⟩, (.int .i64)),
                          (⟨(some 21), .move (.tmp 1), none⟩, .any),
                          (⟨(some 22), .lenS (.tmp 21), none⟩, (.int .i64)),
                          (⟨(some 23), .bin .lss (.tmp 20) (.tmp 22), none⟩, .bool)]) <|
                      .cond (.tmp 23)
                        (.skip)
                        (.exit 2)) <|
                    .seq (.cutn [] <|
                        .block 3 <|
                          .seq (.reg [(⟨(some 26), .move (.tmp 1), none⟩, .any),
                              (⟨(some 27), .move (.tmp 7), none⟩, (.int .i64)),
                              (⟨(some 28), .idxSlice 1 (.tmp 26) (.tmp 27), none⟩, .ptr),
                              (⟨(some 29), .load false 1 (.tmp 28), none⟩, (.int .i64)),
                              (⟨(some 30), .move (.tmp 6), none⟩, (.int .i64)),
                              (⟨(some 31), .bin .eql (.tmp 29) (.tmp 30), none⟩, .bool)]) <|
                          .cond (.tmp 31)
                            (.seq (.reg [(⟨(some 32), .move (.tmp 0), none⟩, .ptr),
                                (⟨(some 33), .nilCheck (.tmp 32), none⟩, .ptr),
                                (⟨(some 34), .fieldAddr 1 (.tmp 33), none⟩, .ptr),
                                (⟨(some 35), .load false 1 (.tmp 34), none⟩, .any),
                                (⟨(some 36), .move (.tmp 6), none⟩, (.int .i64)),
                                (⟨(some 37), .idxSlice 2 (.tmp 35) (.tmp 36), none⟩, .ptr),
                                (⟨(some 38), .load true 2 (.tmp 37), none⟩, .any),
                                (⟨(some 8), .alloc [(.int .i64 0), (.slice none 0 0)], none⟩, .ptr),
                                (⟨none, .store 2 (.tmp 8) (.tmp 38), none⟩, .any)]) <|
                            .seq (.reg [(⟨(some 9), .move (.const (.int .i64 0)), none⟩, (.int .i64))]) <|
                            .block 4 <|
                              .loop [(9, (.int .i64))] <|
                                .seq (.seq (.reg [(⟨(some 39), .move (.tmp 9), none⟩, (.int .i64)),
                                      (⟨(some 40), .bin .lss (.tmp 39) (.const (.int .i64 64)), none⟩, .bool)]) <|
                                  .cond (.tmp 40)
                                    (.skip)
                                    (.exit 4)) <|
                                .seq (.block 5 <|
                                    .regd [(⟨0, [], false, ⟨(some 43), .move (.tmp 0), none⟩⟩, .ptr),
                                      (⟨1, [0], false, ⟨(some 44), .nilCheck (.tmp 43), none⟩⟩, .ptr),
                                      (⟨2, [1, 0], false, ⟨(some 45), .fieldAddr 0 (.tmp 44), none⟩⟩, .ptr),
                                      (⟨3, [2, 1, 0], false, ⟨(some 46), .load false 1 (.tmp 45), none⟩⟩, .any),
                                      (⟨4, [], false, ⟨(some 47), .fieldAddr 0 (.tmp 8), none⟩⟩, .ptr),
                                      (⟨5, [4], false, ⟨(some 48), .load false 1 (.tmp 47), none⟩⟩, (.int .i64)),
                                      (⟨6, [5, 4], false, ⟨(some 49), .bin .mul (.tmp 48) (.const (.int .i64 64)), none⟩⟩, (.int .i64)),
                                      (⟨7, [], false, ⟨(some 50), .move (.tmp 9), none⟩⟩, (.int .i64)),
                                      (⟨8, [6, 7, 5, 4], false, ⟨(some 51), .bin .add (.tmp 49) (.tmp 50), none⟩⟩, (.int .i64)),
                                      (⟨9, [], false, ⟨(some 52), .fieldAddr 1 (.tmp 8), none⟩⟩, .ptr),
                                      (⟨10, [9], false, ⟨(some 53), .load false 1 (.tmp 52), none⟩⟩, .any),
                                      (⟨11, [], false, ⟨(some 54), .move (.tmp 9), none⟩⟩, (.int .i64)),
                                      (⟨12, [10, 11, 9], false, ⟨(some 55), .idxSlice 1 (.tmp 53) (.tmp 54), none⟩⟩, .ptr),
                                      (⟨13, [12, 10, 11, 9], false, ⟨(some 56), .load false 1 (.tmp 55), none⟩⟩, (.int .u8)),
                                      (⟨14, [3, 8, 0, 1, 2, 4, 5, 6, 7, 9, 10, 11, 12, 13], false, ⟨(some 57), .idxSlice 1 (.tmp 46) (.tmp 51), none⟩⟩, .ptr),
                                      (⟨15, [14, 13, 0, 1, 2, 3, 4, 5, 6, 7, 8, 9, 10, 11, 12], true, ⟨none, .store 1 (.tmp 57) (.tmp 56), none⟩⟩, .any)]) <|
                                .reg [(⟨(some 41), .move (.tmp 9), none⟩, (.int .i64)),
                                  (⟨(some 42), .bin .add (.tmp 41) (.const (.int .i64 1)), none⟩, (.int .i64)),
                                  (⟨(some 9), .move (.tmp 42), none⟩, (.int .i64))])
                            (.skip)) <|
                    .reg [(⟨(some 24), .move (.tmp 7), none⟩, (.int .i64)),
                      (⟨(some 25), .bin .add (.tmp 24) (.const (.int .i64 1)), none⟩, (.int .i64)),
                      (⟨(some 7), .move (.tmp 25), none⟩, (.int .i64))]) <|
          .reg [(⟨(some 18), .move (.tmp 6), none⟩, (.int .i64)),
            (⟨(some 19), .bin .add (.tmp 18) (.const (.int .i64 1)), none⟩, (.int .i64)),
            (⟨(some 6), .move (.tmp 19), none⟩, (.int .i64))]) <|
  .seq (.reg [(⟨(some 58), .move (.tmp 0), none⟩, .ptr),
      (⟨(some 59), .nilCheck (.tmp 58), none⟩, .ptr),
      (⟨(some 60), .fieldAddr 1 (.tmp 59), none⟩, .ptr),
      (⟨none, .store 1 (.tmp 60) (.const (.slice none 0 0)), none⟩, .any)]) <|
  .seq (.reg [(⟨(some 61), .move (.tmp 5), none⟩, (.int .i64)),
      (⟨(some 4), .move (.tmp 61), none⟩, (.int .i64))]) <|
  .ret
def f_wicketref04_Disk_Crash_L26 (n : Nat) (u0 : Option Addr) (h6 : Heap) (v16 : Int) (h17 : Heap) : Option (((Int × Unit) × Heap) ⊕ ((Unit) × Heap)) :=
  bif (decide (v16 < 64)) then
    ((u0).bind fun q18 =>
    (ldT .any h17 (some (fa q18 0))).bind fun x19 =>
    (ldT (.int .i64) h17 (some (fa (nwA h6) 0))).bind fun x20 =>
    (ldT .any h17 (some (fa (nwA h6) 1))).bind fun x21 =>
    (ixB 1 x21 v16).bind fun q22 =>
    (ldT (.int .u8) h17 (some q22)).bind fun x23 =>
    (ixB 1 x19 (IntKind.i64.wrap ((IntKind.i64.wrap (x20 * 64)) + v16))).bind fun q24 =>
    (stB 1 (.int .u8 x23) h17 (some q24)).bind fun h25 =>
    some (.inl (((IntKind.i64.wrap (v16 + 1)), ()), h25)))
  else
    (some (.inr ((), h17)))
def f_wicketref04_Disk_Crash_L28 (n : Nat) (u1 : Value) (u0 : Option Addr) (v3 : Int) (v5 : Int) (h6 : Heap) : Option (((Int × Unit) × Heap) ⊕ ((Unit) × Heap)) :=
  (lenB u1).bind fun n7 =>
  bif (decide (v5 < (n7 : Int))) then
    ((((ixB 1 u1 v5).bind fun q8 =>
      (ldT (.int .i64) h6 (some q8)).bind fun x9 =>
      bif (decide (x9 = v3)) then
        ((u0).bind fun q10 =>
        (ldT .any h6 (some (fa q10 1))).bind fun x11 =>
        (ixB 2 x11 v3).bind fun q12 =>
        (ldA 2 h6 (some q12)).bind fun cs13 =>
        bnd ((Heap.new h6 (.cells [(.int .i64 0), (.slice none 0 0)] false 0))) fun h14 =>
        (stB 2 (.agg ⟨cs13⟩) h14 (some (nwA h6))).bind fun h15 =>
        loopT (fun a => f_wicketref04_Disk_Crash_L26 n u0 h6 a.1.1 a.2) n ((0, ()), h15))
      else
        (some ((), h6))) : Option ((Unit) × Heap)).bind fun a27 =>
    some (.inl (((IntKind.i64.wrap (v5 + 1)), ()), a27.2)))
  else
    (some (.inr ((), h6)))
def f_wicketref04_Disk_Crash_L30 (n : Nat) (u1 : Value) (u0 : Option Addr) (n2 : Nat) (v3 : Int) (h4 : Heap) : Option (((Int × Unit) × Heap) ⊕ ((Unit) × Heap)) :=
  bif (decide (v3 < (n2 : Int))) then
    (((loopT (fun a => f_wicketref04_Disk_Crash_L28 n u1 u0 v3 a.1.1 a.2) n ((0, ()), h4)) : Option ((Unit) × Heap)).bind fun a29 =>
    some (.inl (((IntKind.i64.wrap (v3 + 1)), ()), a29.2)))
  else
    (some (.inr ((), h4)))
noncomputable def sf_wicketref04_Disk_Crash (n : Nat) : Sf := sfOf []
noncomputable def it_wicketref04_Disk_Crash (n : Nat) : It := itOf []
def f_wicketref04_Disk_Crash (n : Nat) (u0 : Option Addr) (u1 : Value) (h : Heap) : Option ((Int × Unit) × Heap) :=
  (u0).bind fun q0 =>
  (ldT .any h (some (fa q0 1))).bind fun x1 =>
  (lenB x1).bind fun n2 =>
  ((loopT (fun a => f_wicketref04_Disk_Crash_L30 n u1 u0 n2 a.1.1 a.2) n ((0, ()), h)) : Option ((Unit) × Heap)).bind fun a31 =>
  (u0).bind fun q32 =>
  (stB 1 (.slice none 0 0) a31.2 (some (fa q32 1))).bind fun h33 =>
  some (((n2 : Int), ()), h33)
def rs_wicketref04_Disk_Crash : Rs := [(.tmp 4, (.int .i64))]
def ps_wicketref04_Disk_Crash : List Ty := [.ptr, .any]
theorem e_wicketref04_Disk_Crash (n : Nat) (u0 : Option Addr) (u1 : Value) (h : Heap) : f_wicketref04_Disk_Crash n u0 u1 h = fB (sf_wicketref04_Disk_Crash n) (it_wicketref04_Disk_Crash n) n c2_wicketref04_Disk_Crash rs_wicketref04_Disk_Crash ps_wicketref04_Disk_Crash (u0, (u1, ())) h := by kernel_rfl
noncomputable def s_wicketref04_Disk_Crash (n : Nat) : Sf1 := mkSf ps_wicketref04_Disk_Crash rs_wicketref04_Disk_Crash fun a h => f_wicketref04_Disk_Crash n a.1 a.2.1 h

/- wicket/wicketlaw04.Apart -/
def c2_wicketlaw04_Apart : C2 :=
  .seq (.reg [(⟨none, .clrS, none⟩, .any)]) <|
  .seq (.reg [(⟨(some 2), .move (.const (.bool false)), none⟩, .bool)]) <|
  .seq (.cutn [] <|
      .seq (.reg [(⟨(some 11), .move (.tmp 0), none⟩, .any),
          (⟨(some 12), .lenS (.tmp 11), none⟩, (.int .i64)),
          (⟨(some 13), .move (.const (.int .i64 0)), none⟩, (.int .i64))]) <|
      .block 0 <|
        .loop [(13, (.int .i64))] <|
          .seq (.reg [(⟨(some 14), .bin .lss (.tmp 13) (.tmp 12), none⟩, .any)]) <|
          .seq (.cond (.tmp 14)
              (.skip)
              (.exit 0)) <|
          .seq (.cutn [] <|
              .block 1 <|
                .seq (.reg [(⟨(some 15), .move (.tmp 13), none⟩, (.int .i64)),
                    (⟨(some 3), .move (.tmp 15), none⟩, (.int .i64))]) <|
                .seq (.cutn [] <|
                    .seq (.reg [(⟨(some 16), .move (.tmp 0), none⟩, .any),
                        (⟨(some 17), .move (.tmp 3), none⟩, (.int .i64)),
                        (⟨(some 18), .idxSlice 2 (.tmp 16) (.tmp 17), none⟩, .ptr),
                        (⟨(some 19), .fieldAddr 1 (.tmp 18), none⟩, .ptr),
                        (⟨(some 20), .loadS false 1 (.tmp 19), none⟩, .any),
                        (⟨(some 21), .lenS (.tmp 20), none⟩, (.int .i64)),
                        (⟨(some 22), .move (.const (.int .i64 0)), none⟩, (.int .i64))]) <|
                    .block 2 <|
                      .loop [(22, (.int .i64))] <|
                        .seq (.reg [(⟨(some 23), .bin .lss (.tmp 22) (.tmp 21), none⟩, .any)]) <|
                        .seq (.cond (.tmp 23)
                            (.skip)
                            (.exit 2)) <|
                        .seq (.block 3 <|
                            .seq (.reg [(⟨(some 24), .move (.tmp 22), none⟩, (.int .i64)),
                                (⟨(some 4), .move (.tmp 24), none⟩, (.int .i64))]) <|
                            .reg [(⟨(some 25), .move (.tmp 0), none⟩, .any),
                              (⟨(some 26), .move (.tmp 3), none⟩, (.int .i64)),
                              (⟨(some 27), .idxSlice 2 (.tmp 25) (.tmp 26), none⟩, .ptr),
                              (⟨(some 28), .fieldAddr 1 (.tmp 27), none⟩, .ptr),
                              (⟨(some 29), .loadS false 1 (.tmp 28), none⟩, .any),
                              (⟨(some 30), .move (.tmp 4), none⟩, (.int .i64)),
                              (⟨(some 31), .move (.tmp 3), none⟩, (.int .i64)),
                              (⟨(some 32), .bin .add (.tmp 31) (.const (.int .i64 1)), none⟩, (.int .i64)),
                              (⟨(some 33), .conv .u8 (.tmp 32), none⟩, (.int .u8)),
                              (⟨(some 34), .idxSlice 1 (.tmp 29) (.tmp 30), none⟩, .ptr),
                              (⟨none, .store 1 (.tmp 34) (.tmp 33), none⟩, .any)]) <|
                        .reg [(⟨(some 35), .bin .add (.tmp 22) (.const (.int .i64 1)), none⟩, (.int .i64)),
                          (⟨(some 22), .move (.tmp 35), none⟩, (.int .i64))]) <|
                .reg [(⟨(some 36), .move (.tmp 0), none⟩, .any),
                  (⟨(some 37), .move (.tmp 3), none⟩, (.int .i64)),
                  (⟨(some 38), .move (.tmp 3), none⟩, (.int .i64)),
                  (⟨(some 39), .un .neg (.tmp 38), none⟩, (.int .i64)),
                  (⟨(some 40), .idxSlice 2 (.tmp 36) (.tmp 37), none⟩, .ptr),
                  (⟨(some 41), .fieldAddr 0 (.tmp 40), none⟩, .ptr),
                  (⟨none, .store 1 (.tmp 41) (.tmp 39), none⟩, .any)]) <|
          .reg [(⟨(some 42), .bin .add (.tmp 13) (.const (.int .i64 1)), none⟩, (.int .i64)),
            (⟨(some 13), .move (.tmp 42), none⟩, (.int .i64))]) <|
  .seq (.reg [(⟨(some 5), .move (.const (.slice none 0 0)), none⟩, .any)]) <|
  .seq (.cutn [(5, .any)] <|
      .seq (.reg [(⟨(some 43), .move (.tmp 0), none⟩, .any),
          (⟨(some 44), .lenS (.tmp 43), none⟩, (.int .i64)),
          (⟨(some 45), .move (.const (.int .i64 0)), none⟩, (.int .i64))]) <|
      .block 4 <|
        .loop [(5, .any), (45, (.int .i64))] <|
          .seq (.reg [(⟨(some 46), .bin .lss (.tmp 45) (.tmp 44), none⟩, .any)]) <|
          .seq (.cond (.tmp 46)
              (.skip)
              (.exit 4)) <|
          .seq (.cutn [(5, .any)] <|
              .block 5 <|
                .seq (.reg [(⟨(some 47), .move (.tmp 45), none⟩, (.int .i64)),
                    (⟨(some 6), .move (.tmp 47), none⟩, (.int .i64))]) <|
                .seq (.reg [(⟨(some 48), .move (.tmp 0), none⟩, .any),
                    (⟨(some 49), .move (.tmp 6), none⟩, (.int .i64)),
                    (⟨(some 50), .idxSlice 2 (.tmp 48) (.tmp 49), none⟩, .ptr),
                    (⟨(some 51), .fieldAddr 1 (.tmp 50), none⟩, .ptr),
                    (⟨(some 52), .loadS false 1 (.tmp 51), none⟩, .any),
                    (⟨(some 7), .move (.tmp 52), none⟩, .any)]) <|
                .seq (.cutn [(7, .any)] <|
                    .seq (.reg [(⟨(some 8), .move (.const (.int .i64 0)), none⟩, (.int .i64))]) <|
                    .block 6 <|
                      .loop [(7, .any), (8, (.int .i64))] <|
                        .seq (.seq (.reg [(⟨(some 53), .move (.tmp 8), none⟩, (.int .i64)),
                              (⟨(some 54), .bin .lss (.tmp 53) (.const (.int .i64 70)), none⟩, .bool)]) <|
                          .cond (.tmp 54)
                            (.skip)
                            (.exit 6)) <|
                        .seq (.block 7 <|
                            .reg [(⟨(some 57), .move (.tmp 7), none⟩, .any),
                              (⟨(some 58), .move (.tmp 6), none⟩, (.int .i64)),
                              (⟨(some 59), .bin .add (.tmp 58) (.const (.int .i64 1)), none⟩, (.int .i64)),
                              (⟨(some 60), .conv .u8 (.tmp 59), none⟩, (.int .u8)),
                              (⟨(some 61), .buildSlice 1 1 [(.int .u8 0)] [(0, 1, (.tmp 60))], none⟩, .any),
                              (⟨(some 62), .appendS 1 1 (.tmp 57) (.tmp 61), none⟩, .any),
                              (⟨(some 7), .move (.tmp 62), none⟩, .any)]) <|
                        .reg [(⟨(some 55), .move (.tmp 8), none⟩, (.int .i64)),
                          (⟨(some 56), .bin .add (.tmp 55) (.const (.int .i64 1)), none⟩, (.int .i64)),
                          (⟨(some 8), .move (.tmp 56), none⟩, (.int .i64))]) <|
                .reg [(⟨(some 63), .move (.tmp 5), none⟩, .any),
                  (⟨(some 64), .move (.tmp 7), none⟩, .any),
                  (⟨(some 65), .buildSlice 1 1 [(.slice none 0 0)] [(0, 1, (.tmp 64))], none⟩, .any),
                  (⟨(some 66), .appendS 24 1 (.tmp 63) (.tmp 65), none⟩, .any),
                  (⟨(some 5), .move (.tmp 66), none⟩, .any)]) <|
          .reg [(⟨(some 67), .bin .add (.tmp 45) (.const (.int .i64 1)), none⟩, (.int .i64)),
            (⟨(some 45), .move (.tmp 67), none⟩, (.int .i64))]) <|
  .seq (.seq (.reg [(⟨(some 68), .move (.tmp 0), none⟩, .any),
        (⟨(some 69), .lenS (.tmp 68), none⟩, (.int .i64)),
        (⟨(some 70), .move (.const (.int .i64 0)), none⟩, (.int .i64))]) <|
    .block 8 <|
      .loop [(70, (.int .i64))] <|
        .seq (.reg [(⟨(some 71), .bin .lss (.tmp 70) (.tmp 69), none⟩, .any)]) <|
        .seq (.cond (.tmp 71)
            (.skip)
            (.exit 8)) <|
        .seq (.cut [] <|
            .block 9 <|
              .seq (.reg [(⟨(some 72), .move (.tmp 70), none⟩, (.int .i64)),
                  (⟨(some 9), .move (.tmp 72), none⟩, (.int .i64))]) <|
              .seq (.cut [] <|
                  .seq (.reg [(⟨(some 73), .move (.tmp 5), none⟩, .any),
                      (⟨(some 74), .move (.tmp 9), none⟩, (.int .i64)),
                      (⟨(some 75), .idxSlice 1 (.tmp 73) (.tmp 74), none⟩, .ptr),
                      (⟨(some 76), .loadS false 1 (.tmp 75), none⟩, .any),
                      (⟨(some 77), .lenS (.tmp 76), none⟩, (.int .i64)),
                      (⟨(some 78), .move (.const (.int .i64 0)), none⟩, (.int .i64))]) <|
                  .block 10 <|
                    .loop [(78, (.int .i64))] <|
                      .seq (.reg [(⟨(some 79), .bin .lss (.tmp 78) (.tmp 77), none⟩, .any)]) <|
                      .seq (.cond (.tmp 79)
                          (.skip)
                          (.exit 10)) <|
                      .seq (.block 11 <|
                          .seq (.reg [(⟨(some 80), .move (.tmp 78), none⟩, (.int .i64)),
                              (⟨(some 10), .move (.tmp 80), none⟩, (.int .i64))]) <|
                          .seq (.cutn [(115, .bool)] <|
                              .reg [(⟨(some 81), .move (.tmp 5), none⟩, .any),
                                (⟨(some 82), .move (.tmp 9), none⟩, (.int .i64)),
                                (⟨(some 83), .idxSlice 1 (.tmp 81) (.tmp 82), none⟩, .ptr),
                                (⟨(some 84), .loadS false 1 (.tmp 83), none⟩, .any),
                                (⟨(some 85), .move (.tmp 10), none⟩, (.int .i64)),
                                (⟨(some 86), .idxSlice 1 (.tmp 84) (.tmp 85), none⟩, .ptr),
                                (⟨(some 87), .loadS false 1 (.tmp 86), none⟩, (.int .u8)),
                                (⟨(some 88), .move (.tmp 9), none⟩, (.int .i64)),
                                (⟨(some 89), .bin .add (.tmp 88) (.const (.int .i64 1)), none⟩, (.int .i64)),
                                (⟨(some 90), .conv .u8 (.tmp 89), none⟩, (.int .u8)),
                                (⟨(some 91), .bin .neq (.tmp 87) (.tmp 90), none⟩, .bool),
                                (⟨(some 92), .move (.tmp 91), none⟩, .bool),
                                (⟨(some 93), .move (.tmp 10), some (92, false)⟩, (.int .i64)),
                                (⟨(some 94), .move (.tmp 0), some (92, false)⟩, .any),
                                (⟨(some 95), .move (.tmp 9), some (92, false)⟩, (.int .i64)),
                                (⟨(some 96), .idxSlice 2 (.tmp 94) (.tmp 95), some (92, false)⟩, .ptr),
                                (⟨(some 97), .fieldAddr 1 (.tmp 96), some (92, false)⟩, .ptr),
                                (⟨(some 98), .loadS false 1 (.tmp 97), some (92, false)⟩, .any),
                                (⟨(some 99), .lenS (.tmp 98), some (92, false)⟩, (.int .i64)),
                                (⟨(some 100), .bin .lss (.tmp 93) (.tmp 99), some (92, false)⟩, .bool),
                                (⟨(some 101), .move (.tmp 100), some (92, false)⟩, .bool),
                                (⟨(some 102), .move (.tmp 0), some (101, true)⟩, .any),
                                (⟨(some 103), .move (.tmp 9), some (101, true)⟩, (.int .i64)),
                                (⟨(some 104), .idxSlice 2 (.tmp 102) (.tmp 103), some (101, true)⟩, .ptr),
                                (⟨(some 105), .fieldAddr 1 (.tmp 104), some (101, true)⟩, .ptr),
                                (⟨(some 106), .loadS false 1 (.tmp 105), some (101, true)⟩, .any),
                                (⟨(some 107), .move (.tmp 10), some (101, true)⟩, (.int .i64)),
                                (⟨(some 108), .idxSlice 1 (.tmp 106) (.tmp 107), some (101, true)⟩, .ptr),
                                (⟨(some 109), .loadS false 1 (.tmp 108), some (101, true)⟩, (.int .u8)),
                                (⟨(some 110), .move (.tmp 9), some (101, true)⟩, (.int .i64)),
                                (⟨(some 111), .bin .add (.tmp 110) (.const (.int .i64 1)), some (101, true)⟩, (.int .i64)),
                                (⟨(some 112), .conv .u8 (.tmp 111), some (101, true)⟩, (.int .u8)),
                                (⟨(some 113), .bin .neq (.tmp 109) (.tmp 112), some (101, true)⟩, .bool),
                                (⟨(some 114), .pick (.tmp 101) (.tmp 113) (.const (.bool false)), some (92, false)⟩, .bool),
                                (⟨(some 115), .pick (.tmp 92) (.const (.bool true)) (.tmp 114), none⟩, .bool)]) <|
                          .cond (.tmp 115)
                            (.seq (.reg [(⟨(some 2), .move (.const (.bool false)), none⟩, .bool)]) <|
                            .ret)
                            (.skip)) <|
                      .reg [(⟨(some 116), .bin .add (.tmp 78) (.const (.int .i64 1)), none⟩, (.int .i64)),
                        (⟨(some 78), .move (.tmp 116), none⟩, (.int .i64))]) <|
              .seq (.reg [(⟨(some 117), .move (.tmp 0), none⟩, .any),
                  (⟨(some 118), .move (.tmp 9), none⟩, (.int .i64)),
                  (⟨(some 119), .idxSlice 2 (.tmp 117) (.tmp 118), none⟩, .ptr),
                  (⟨(some 120), .fieldAddr 0 (.tmp 119), none⟩, .ptr),
                  (⟨(some 121), .loadS false 1 (.tmp 120), none⟩, (.int .i64)),
                  (⟨(some 122), .move (.tmp 9), none⟩, (.int .i64)),
                  (⟨(some 123), .un .neg (.tmp 122), none⟩, (.int .i64)),
                  (⟨(some 124), .bin .neq (.tmp 121) (.tmp 123), none⟩, .bool)]) <|
              .cond (.tmp 124)
                (.seq (.reg [(⟨(some 2), .move (.const (.bool false)), none⟩, .bool)]) <|
                .ret)
                (.skip)) <|
        .reg [(⟨(some 125), .bin .add (.tmp 70) (.const (.int .i64 1)), none⟩, (.int .i64)),
          (⟨(some 70), .move (.tmp 125), none⟩, (.int .i64))]) <|
  .seq (.reg [(⟨(some 2), .move (.const (.bool true)), none⟩, .bool)]) <|
  .ret
def f_wicketlaw04_Apart_L13 (n : Nat) (u0 : Value) (v2 : Int) (n6 : Nat) (v7 : Int) (h8 : Heap) : Option (((Int × Unit) × Heap) ⊕ ((Unit) × Heap)) :=
  bif (decide (v7 < (n6 : Int))) then
    ((ixB 2 u0 v2).bind fun q9 =>
    (ldTS .any h8 (some (fa q9 1))).bind fun x10 =>
    (ixB 1 x10 v7).bind fun q11 =>
    (stB 1 (.int .u8 (IntKind.u8.wrap ((IntKind.i64.wrap (v2 + 1))))) h8 (some q11)).bind fun h12 =>
    some (.inl (((IntKind.i64.wrap (v7 + 1)), ()), h12)))
  else
    (some (.inr ((), h8)))
def f_wicketlaw04_Apart_L19 (n : Nat) (u0 : Value) (n1 : Nat) (v2 : Int) (h3 : Heap) : Option (((Int × Unit) × Heap) ⊕ ((Unit) × Heap)) :=
  bif (decide (v2 < (n1 : Int))) then
    ((((((ixB 2 u0 v2).bind fun q4 =>
        (ldTS .any h3 (some (fa q4 1))).bind fun x5 =>
        (lenB x5).bind fun n6 =>
        loopT (fun a => f_wicketlaw04_Apart_L13 n u0 v2 n6 a.1.1 a.2) n ((0, ()), h3)) : Option ((Unit) × Heap)).bind fun a14 =>
      (unB .neg .i64 v2).bind fun x15 =>
      (ixB 2 u0 v2).bind fun q16 =>
      (stB 1 (.int .i64 x15) a14.2 (some (fa q16 0))).bind fun h17 =>
      some ((), h17)) : Option ((Unit) × Heap)).bind fun a18 =>
    some (.inl (((IntKind.i64.wrap (v2 + 1)), ()), a18.2)))
  else
    (some (.inr ((), h3)))
def f_wicketlaw04_Apart_L33 (n : Nat) (v23 : Int) (v27 : Value) (v28 : Int) (h29 : Heap) : Option (((Value × Int × Unit) × Heap) ⊕ ((Value × Unit) × Heap)) :=
  bif (decide (v28 < 70)) then
    ((fillL [(.int .u8 0)] [(0, 1, (.int .u8 (IntKind.u8.wrap ((IntKind.i64.wrap (v23 + 1))))))]).bind fun cs30 =>
    bnd ((Heap.new h29 (.cells cs30 false 1))) fun h31 =>
    (appendSK h31 1 1 v27 (.slice (some ⟨Heap.next h29, 0, some 0⟩) 1 1)).bind fun p32 =>
    some (.inl ((p32.1, ((IntKind.i64.wrap (v28 + 1)), ())), p32.2)))
  else
    (some (.inr ((v27, ()), h29)))
def f_wicketlaw04_Apart_L39 (n : Nat) (u0 : Value) (n21 : Nat) (v22 : Value) (v23 : Int) (h24 : Heap) : Option (((Value × Int × Unit) × Heap) ⊕ ((Value × Unit) × Heap)) :=
  bif (decide (v23 < (n21 : Int))) then
    ((((ixB 2 u0 v23).bind fun q25 =>
      (ldTS .any h24 (some (fa q25 1))).bind fun x26 =>
      ((loopT (fun a => f_wicketlaw04_Apart_L33 n v23 a.1.1 a.1.2.1 a.2) n ((x26, (0, ())), h24)) : Option ((Value × Unit) × Heap)).bind fun a34 =>
      (fillL [(.slice none 0 0)] [(0, 1, a34.1.1)]).bind fun cs35 =>
      bnd ((Heap.new a34.2 (.cells cs35 false 1))) fun h36 =>
      (appendSK h36 24 1 v22 (.slice (some ⟨Heap.next a34.2, 0, some 0⟩) 1 1)).bind fun p37 =>
      some ((p37.1, ()), p37.2)) : Option ((Value × Unit) × Heap)).bind fun a38 =>
    some (.inl ((a38.1.1, ((IntKind.i64.wrap (v23 + 1)), ())), a38.2)))
  else
    (some (.inr ((v22, ()), h24)))
def f_wicketlaw04_Apart_L63 (n : Nat) (u0 : Value) (a40 : ((Value × Unit) × Heap)) (v42 : Int) (n48 : Nat) (v49 : Int) (h50 : Heap) : Option (((Int × Unit) × Heap) ⊕ (((Unit) × Heap) ⊕ (((Unit) × Heap) ⊕ (((Int × Unit) × Heap) ⊕ ((Bool × Unit) × Heap))))) :=
  bif (decide (v49 < (n48 : Int))) then
    ((((ixB 1 a40.1.1 v42).bind fun q51 =>
      (ldTS .any h50 (some q51)).bind fun x52 =>
      (ixB 1 x52 v49).bind fun q53 =>
      (ldTS (.int .u8) h50 (some q53)).bind fun x54 =>
      bif (!decide (x54 = (IntKind.u8.wrap ((IntKind.i64.wrap (v42 + 1)))))) then
        (some ((true, ()), h50))
      else
        ((ixB 2 u0 v42).bind fun q55 =>
        (ldTS .any h50 (some (fa q55 1))).bind fun x56 =>
        (lenB x56).bind fun n57 =>
        bif (decide (v49 < (n57 : Int))) then
          ((ixB 2 u0 v42).bind fun q58 =>
          (ldTS .any h50 (some (fa q58 1))).bind fun x59 =>
          (ixB 1 x59 v49).bind fun q60 =>
          (ldTS (.int .u8) h50 (some q60)).bind fun x61 =>
          some (((!decide (x61 = (IntKind.u8.wrap ((IntKind.i64.wrap (v42 + 1)))))), ()), h50))
        else
          (some ((false, ()), h50)))) : Option ((Bool × Unit) × Heap)).bind fun a62 =>
    bif a62.1.1 then
      (some (.inr (.inr (.inr (.inr ((false, ()), a62.2))))))
    else
      (some (.inl (((IntKind.i64.wrap (v49 + 1)), ()), a62.2))))
  else
    (some (.inr (.inl ((), h50))))
def f_wicketlaw04_Apart_C64 (n : Nat) (u0 : Value) (a40 : ((Value × Unit) × Heap)) (v42 : Int) (h45 : Heap) : Option (((Unit) × Heap) ⊕ (((Unit) × Heap) ⊕ (((Int × Unit) × Heap) ⊕ ((Bool × Unit) × Heap)))) :=
  (ixB 1 a40.1.1 v42).bind fun q46 =>
  (ldTS .any h45 (some q46)).bind fun x47 =>
  (lenB x47).bind fun n48 =>
  loopT (fun a => f_wicketlaw04_Apart_L63 n u0 a40 v42 n48 a.1.1 a.2) n ((0, ()), h45)
def f_wicketlaw04_Apart_C69 (n : Nat) (u0 : Value) (a40 : ((Value × Unit) × Heap)) (v42 : Int) (h44 : Heap) : Option (((Unit) × Heap) ⊕ (((Int × Unit) × Heap) ⊕ ((Bool × Unit) × Heap))) :=
  thenB (f_wicketlaw04_Apart_C64 n u0 a40 v42 (h44)) fun a65 =>
  (ixB 2 u0 v42).bind fun q66 =>
  (ldTS (.int .i64) a65.2 (some (fa q66 0))).bind fun x67 =>
  (unB .neg .i64 v42).bind fun x68 =>
  bif (!decide (x67 = x68)) then
    (some (.inr (.inr ((false, ()), a65.2))))
  else
    (some (.inl ((), a65.2)))
def f_wicketlaw04_Apart_L71 (n : Nat) (u0 : Value) (a40 : ((Value × Unit) × Heap)) (n41 : Nat) (v42 : Int) (h43 : Heap) : Option (((Int × Unit) × Heap) ⊕ ((Bool × Unit) × Heap)) :=
  bif (decide (v42 < (n41 : Int))) then
    (thenB (f_wicketlaw04_Apart_C69 n u0 a40 v42 (h43)) fun a70 =>
    some (.inl (((IntKind.i64.wrap (v42 + 1)), ()), a70.2)))
  else
    (some (.inr ((true, ()), h43)))
noncomputable def sf_wicketlaw04_Apart (n : Nat) : Sf := sfOf []
noncomputable def it_wicketlaw04_Apart (n : Nat) : It := itOf []
def f_wicketlaw04_Apart (n : Nat) (u0 : Value) (h : Heap) : Option ((Bool × Unit) × Heap) :=
  bnd ((clrH h)) fun h0 =>
  (((lenB u0).bind fun n1 =>
    loopT (fun a => f_wicketlaw04_Apart_L19 n u0 n1 a.1.1 a.2) n ((0, ()), h0)) : Option ((Unit) × Heap)).bind fun a20 =>
  (((lenB u0).bind fun n21 =>
    loopT (fun a => f_wicketlaw04_Apart_L39 n u0 n21 a.1.1 a.1.2.1 a.2) n (((.slice none 0 0), (0, ())), a20.2)) : Option ((Value × Unit) × Heap)).bind fun a40 =>
  (lenB u0).bind fun n41 =>
  loopT (fun a => f_wicketlaw04_Apart_L71 n u0 a40 n41 a.1.1 a.2) n ((0, ()), a40.2)
def rs_wicketlaw04_Apart : Rs := [(.tmp 2, .bool)]
def ps_wicketlaw04_Apart : List Ty := [.any]
theorem e_wicketlaw04_Apart (n : Nat) (u0 : Value) (h : Heap) : f_wicketlaw04_Apart n u0 h = fB (sf_wicketlaw04_Apart n) (it_wicketlaw04_Apart n) n c2_wicketlaw04_Apart rs_wicketlaw04_Apart ps_wicketlaw04_Apart (u0, ()) h := by kernel_rfl
noncomputable def s_wicketlaw04_Apart (n : Nat) : Sf1 := mkSf ps_wicketlaw04_Apart rs_wicketlaw04_Apart fun a h => f_wicketlaw04_Apart n a.1 h

/- (*wicket/wicketref04.Disk).Len -/
def c2_wicketref04_Disk_Len : C2 :=
  .seq (.reg [(⟨(some 2), .move (.const (.int .i64 0)), none⟩, (.int .i64))]) <|
  .seq (.reg [(⟨(some 3), .move (.tmp 0), none⟩, .ptr),
      (⟨(some 4), .nilCheck (.tmp 3), none⟩, .ptr),
      (⟨(some 5), .fieldAddr 0 (.tmp 4), none⟩, .ptr),
      (⟨(some 6), .load false 1 (.tmp 5), none⟩, .any),
      (⟨(some 7), .lenS (.tmp 6), none⟩, (.int .i64)),
      (⟨(some 8), .bin .quo (.tmp 7) (.const (.int .i64 64)), none⟩, (.int .i64)),
      (⟨(some 2), .move (.tmp 8), none⟩, (.int .i64))]) <|
  .ret
noncomputable def sf_wicketref04_Disk_Len (n : Nat) : Sf := sfOf []
noncomputable def it_wicketref04_Disk_Len (n : Nat) : It := itOf []
def f_wicketref04_Disk_Len (n : Nat) (u0 : Option Addr) (h : Heap) : Option ((Int × Unit) × Heap) :=
  (u0).bind fun q0 =>
  (ldT .any h (some (fa q0 0))).bind fun x1 =>
  (lenB x1).bind fun n2 =>
  some (((IntKind.i64.wrap (Int.tdiv (n2 : Int) 64)), ()), h)
def rs_wicketref04_Disk_Len : Rs := [(.tmp 2, (.int .i64))]
def ps_wicketref04_Disk_Len : List Ty := [.ptr]
theorem e_wicketref04_Disk_Len (n : Nat) (u0 : Option Addr) (h : Heap) : f_wicketref04_Disk_Len n u0 h = fB (sf_wicketref04_Disk_Len n) (it_wicketref04_Disk_Len n) n c2_wicketref04_Disk_Len rs_wicketref04_Disk_Len ps_wicketref04_Disk_Len (u0, ()) h := by kernel_rfl
noncomputable def s_wicketref04_Disk_Len (n : Nat) : Sf1 := mkSf ps_wicketref04_Disk_Len rs_wicketref04_Disk_Len fun a h => f_wicketref04_Disk_Len n a.1 h

/- wicket/sector.Load -/
def c2_sector_Load : C2 :=
  .seq (.reg [(⟨(some 2), .move (.const (.pointer none)), none⟩, .ptr),
      (⟨(some 3), .move (.const (.int .i64 0)), none⟩, (.int .i64))]) <|
  .seq (.reg [(⟨(some 7), .move (.tmp 0), none⟩, .any),
      (⟨(some 8), .lenS (.tmp 7), none⟩, (.int .i64)),
      (⟨(some 9), .bin .quo (.tmp 8) (.const (.int .i64 64)), none⟩, (.int .i64)),
      (⟨(some 4), .move (.tmp 9), none⟩, (.int .i64))]) <|
  .seq (.seq (.cutn [(21, .bool)] <|
        .reg [(⟨(some 10), .move (.tmp 4), none⟩, (.int .i64)),
          (⟨(some 11), .bin .lss (.tmp 10) (.const (.int .i64 1)), none⟩, .bool),
          (⟨(some 12), .move (.tmp 11), none⟩, .bool),
          (⟨(some 13), .move (.tmp 4), some (12, false)⟩, (.int .i64)),
          (⟨(some 14), .bin .gtr (.tmp 13) (.const (.int .i64 4096)), some (12, false)⟩, .bool),
          (⟨(some 15), .pick (.tmp 12) (.const (.bool true)) (.tmp 14), none⟩, .bool),
          (⟨(some 16), .move (.tmp 15), none⟩, .bool),
          (⟨(some 17), .move (.tmp 0), some (16, false)⟩, .any),
          (⟨(some 18), .lenS (.tmp 17), some (16, false)⟩, (.int .i64)),
          (⟨(some 19), .bin .rem (.tmp 18) (.const (.int .i64 64)), some (16, false)⟩, (.int .i64)),
          (⟨(some 20), .bin .neq (.tmp 19) (.const (.int .i64 0)), some (16, false)⟩, .bool),
          (⟨(some 21), .pick (.tmp 16) (.const (.bool true)) (.tmp 20), none⟩, .bool)]) <|
    .cond (.tmp 21)
      (.seq (.reg [(⟨(some 2), .move (.const (.pointer none)), none⟩, .ptr),
          (⟨(some 3), .move (.const (.int .i64 2)), none⟩, (.int .i64))]) <|
      .ret)
      (.skip)) <|
  .seq (.reg [(⟨(some 22), .move (.tmp 4), none⟩, (.int .i64)),
      (⟨(some 23), .makeSlice 64 64 (List.replicate 64 (.int .u8 0)) (.tmp 22) (.tmp 22), none⟩, .any),
      (⟨(some 24), .build [(.slice none 0 0), (.slice none 0 0)] [(0, 1, (.tmp 23))], none⟩, .any),
      (⟨(some 25), .box (.tmp 24), none⟩, .ptr),
      (⟨(some 5), .move (.tmp 25), none⟩, .ptr)]) <|
  .seq (.cutn [] <|
      .seq (.reg [(⟨(some 26), .move (.tmp 5), none⟩, .ptr),
          (⟨(some 27), .nilCheck (.tmp 26), none⟩, .ptr),
          (⟨(some 28), .fieldAddr 0 (.tmp 27), none⟩, .ptr),
          (⟨(some 29), .load false 1 (.tmp 28), none⟩, .any),
          (⟨(some 30), .lenS (.tmp 29), none⟩, (.int .i64)),
          (⟨(some 31), .move (.const (.int .i64 0)), none⟩, (.int .i64))]) <|
      .block 0 <|
        .loop [(31, (.int .i64))] <|
          .seq (.reg [(⟨(some 32), .bin .lss (.tmp 31) (.tmp 30), none⟩, .any)]) <|
          .seq (.cond (.tmp 32)
              (.skip)
              (.exit 0)) <|
          .seq (.block 1 <|
              .seq (.reg [(⟨(some 33), .move (.tmp 31), none⟩, (.int .i64)),
                  (⟨(some 6), .move (.tmp 33), none⟩, (.int .i64))]) <|
              .regd [(⟨0, [], false, ⟨(some 34), .move (.tmp 5), none⟩⟩, .ptr),
                (⟨1, [0], false, ⟨(some 35), .nilCheck (.tmp 34), none⟩⟩, .ptr),
                (⟨2, [1, 0], false, ⟨(some 36), .fieldAddr 0 (.tmp 35), none⟩⟩, .ptr),
                (⟨3, [2, 1, 0], false, ⟨(some 37), .load false 1 (.tmp 36), none⟩⟩, .any),
                (⟨4, [], false, ⟨(some 38), .move (.tmp 6), none⟩⟩, (.int .i64)),
                (⟨5, [], false, ⟨(some 39), .move (.tmp 0), none⟩⟩, .any),
                (⟨6, [], false, ⟨(some 40), .move (.tmp 6), none⟩⟩, (.int .i64)),
                (⟨7, [6], false, ⟨(some 41), .bin .mul (.tmp 40) (.const (.int .i64 64)), none⟩⟩, (.int .i64)),
                (⟨8, [], false, ⟨(some 42), .move (.tmp 6), none⟩⟩, (.int .i64)),
                (⟨9, [8], false, ⟨(some 43), .bin .add (.tmp 42) (.const (.int .i64 1)), none⟩⟩, (.int .i64)),
                (⟨10, [9, 8], false, ⟨(some 44), .bin .mul (.tmp 43) (.const (.int .i64 64)), none⟩⟩, (.int .i64)),
                (⟨11, [5, 7, 10, 6, 9, 8], false, ⟨(some 45), .slice 1 (.tmp 39) (some (.tmp 41)) (some (.tmp 44)) none, none⟩⟩, .any),
                (⟨12, [11, 5, 7, 10, 6, 9, 8], false, ⟨(some 46), .arrAt 64 (.tmp 45), none⟩⟩, .ptr),
                (⟨13, [12, 11, 5, 7, 10, 6, 9, 8], false, ⟨(some 47), .load true 64 (.tmp 46), none⟩⟩, .any),
                (⟨14, [3, 4, 0, 1, 2, 5, 6, 7, 8, 9, 10, 11, 12, 13], false, ⟨(some 48), .idxSlice 64 (.tmp 37) (.tmp 38), none⟩⟩, .ptr),
                (⟨15, [14, 13, 0, 1, 2, 3, 4, 5, 6, 7, 8, 9, 10, 11, 12], true, ⟨none, .store 64 (.tmp 48) (.tmp 47), none⟩⟩, .any)]) <|
          .reg [(⟨(some 49), .bin .add (.tmp 31) (.const (.int .i64 1)), none⟩, (.int .i64)),
            (⟨(some 31), .move (.tmp 49), none⟩, (.int .i64))]) <|
  .seq (.reg [(⟨(some 50), .move (.tmp 5), none⟩, .ptr),
      (⟨(some 2), .move (.tmp 50), none⟩, .ptr),
      (⟨(some 3), .move (.const (.int .i64 0)), none⟩, (.int .i64))]) <|
  .ret
def f_sector_Load_L17 (n : Nat) (u0 : Value) (h4 : Heap) (n8 : Nat) (v9 : Int) (h10 : Heap) : Option (((Int × Unit) × Heap) ⊕ ((Unit) × Heap)) :=
  bif (decide (v9 < (n8 : Int))) then
    ((ldT .any h10 (some (fa (nwA h4) 0))).bind fun x11 =>
    (sliceK h10 1 (some (.int .i64 (IntKind.i64.wrap (v9 * 64)))) (some (.int .i64 (IntKind.i64.wrap ((IntKind.i64.wrap (v9 + 1)) * 64)))) none u0).bind fun p12 =>
    (arrB h10 64 p12.1).bind fun q13 =>
    (ldA 64 h10 q13).bind fun cs14 =>
    (ixB 64 x11 v9).bind fun q15 =>
    (stB 64 (.agg ⟨cs14⟩) h10 (some q15)).bind fun h16 =>
    some (.inl (((IntKind.i64.wrap (v9 + 1)), ()), h16)))
  else
    (some (.inr ((), h10)))
noncomputable def sf_sector_Load (n : Nat) : Sf := sfOf []
noncomputable def it_sector_Load (n : Nat) : It := itOf []
def f_sector_Load (n : Nat) (u0 : Value) (h : Heap) : Option ((Option Addr × Int × Unit) × Heap) :=
  (lenB u0).bind fun n0 =>
  ((bif (decide ((IntKind.i64.wrap (Int.tdiv (n0 : Int) 64)) < 1)) then
      (some ((true, ()), h))
    else
      (bif (decide (4096 < (IntKind.i64.wrap (Int.tdiv (n0 : Int) 64)))) then
        (some ((true, ()), h))
      else
        ((lenB u0).bind fun n1 =>
        some (((!decide ((Int.tmod (n1 : Int) 64) = 0)), ()), h)))) : Option ((Bool × Unit) × Heap)).bind fun a2 =>
  bif a2.1.1 then
    (some ((none, (2, ())), a2.2))
  else
    ((mkSl (Heap.next a2.2) 64 64 (List.replicate 64 (.int .u8 0)) (.int .i64 (IntKind.i64.wrap (Int.tdiv (n0 : Int) 64))) (.int .i64 (IntKind.i64.wrap (Int.tdiv (n0 : Int) 64)))).bind fun p3 =>
    bnd ((Heap.new a2.2 (p3.2))) fun h4 =>
    (fillL [(.slice none 0 0), (.slice none 0 0)] [(0, 1, p3.1)]).bind fun cs5 =>
    bif (cs5 : List Value).all isCell then
      (bnd ((Heap.new h4 (.cells cs5 false 0))) fun h6 =>
      (((ldT .any h6 (some (fa (nwA h4) 0))).bind fun x7 =>
        (lenB x7).bind fun n8 =>
        loopT (fun a => f_sector_Load_L17 n u0 h4 n8 a.1.1 a.2) n ((0, ()), h6)) : Option ((Unit) × Heap)).bind fun a18 =>
      some (((some (nwA h4)), (0, ())), a18.2))
    else
      (none))
def rs_sector_Load : Rs := [(.tmp 2, .ptr), (.tmp 3, (.int .i64))]
def ps_sector_Load : List Ty := [.any]
theorem e_sector_Load (n : Nat) (u0 : Value) (h : Heap) : f_sector_Load n u0 h = fB (sf_sector_Load n) (it_sector_Load n) n c2_sector_Load rs_sector_Load ps_sector_Load (u0, ()) h := by kernel_rfl
noncomputable def s_sector_Load (n : Nat) : Sf1 := mkSf ps_sector_Load rs_sector_Load fun a h => f_sector_Load n a.1 h

/- wicket/wicketref04.Load -/
def c2_wicketref04_Load : C2 :=
  .seq (.reg [(⟨(some 2), .move (.const (.pointer none)), none⟩, .ptr),
      (⟨(some 3), .move (.const (.int .i64 0)), none⟩, (.int .i64))]) <|
  .seq (.seq (.cutn [(17, .bool)] <|
        .reg [(⟨(some 4), .move (.tmp 0), none⟩, .any),
          (⟨(some 5), .lenS (.tmp 4), none⟩, (.int .i64)),
          (⟨(some 6), .bin .eql (.tmp 5) (.const (.int .i64 0)), none⟩, .bool),
          (⟨(some 7), .move (.tmp 6), none⟩, .bool),
          (⟨(some 8), .move (.tmp 0), some (7, false)⟩, .any),
          (⟨(some 9), .lenS (.tmp 8), some (7, false)⟩, (.int .i64)),
          (⟨(some 10), .bin .rem (.tmp 9) (.const (.int .i64 64)), some (7, false)⟩, (.int .i64)),
          (⟨(some 11), .bin .neq (.tmp 10) (.const (.int .i64 0)), some (7, false)⟩, .bool),
          (⟨(some 12), .pick (.tmp 7) (.const (.bool true)) (.tmp 11), none⟩, .bool),
          (⟨(some 13), .move (.tmp 12), none⟩, .bool),
          (⟨(some 14), .move (.tmp 0), some (13, false)⟩, .any),
          (⟨(some 15), .lenS (.tmp 14), some (13, false)⟩, (.int .i64)),
          (⟨(some 16), .bin .gtr (.tmp 15) (.const (.int .i64 262144)), some (13, false)⟩, .bool),
          (⟨(some 17), .pick (.tmp 13) (.const (.bool true)) (.tmp 16), none⟩, .bool)]) <|
    .cond (.tmp 17)
      (.seq (.reg [(⟨(some 2), .move (.const (.pointer none)), none⟩, .ptr),
          (⟨(some 3), .move (.const (.int .i64 2)), none⟩, (.int .i64))]) <|
      .ret)
      (.skip)) <|
  .seq (.reg [(⟨(some 18), .buildSlice 0 1 [] [], none⟩, .any),
      (⟨(some 19), .move (.tmp 0), none⟩, .any),
      (⟨(some 20), .append 1 1 (.tmp 18) (.tmp 19), none⟩, .any),
      (⟨(some 21), .build [(.slice none 0 0), (.slice none 0 0)] [(0, 1, (.tmp 20))], none⟩, .any),
      (⟨(some 22), .box (.tmp 21), none⟩, .ptr),
      (⟨(some 2), .move (.tmp 22), none⟩, .ptr),
      (⟨(some 3), .move (.const (.int .i64 0)), none⟩, (.int .i64))]) <|
  .ret
noncomputable def sf_wicketref04_Load (n : Nat) : Sf := sfOf []
noncomputable def it_wicketref04_Load (n : Nat) : It := itOf []
def f_wicketref04_Load (n : Nat) (u0 : Value) (h : Heap) : Option ((Option Addr × Int × Unit) × Heap) :=
  (((lenB u0).bind fun n0 =>
    bif (decide ((n0 : Int) = 0)) then
      (some ((true, ()), h))
    else
      ((lenB u0).bind fun n1 =>
      bif (!decide ((Int.tmod (n1 : Int) 64) = 0)) then
        (some ((true, ()), h))
      else
        ((lenB u0).bind fun n2 =>
        some (((decide (262144 < (n2 : Int))), ()), h)))) : Option ((Bool × Unit) × Heap)).bind fun a3 =>
  bif a3.1.1 then
    (some ((none, (2, ())), a3.2))
  else
    ((fillL [] []).bind fun cs4 =>
    bnd ((Heap.new a3.2 (.cells cs4 false 1))) fun h5 =>
    (appendK h5 1 1 (.slice (some ⟨Heap.next a3.2, 0, some 0⟩) 0 0) u0).bind fun p6 =>
    (fillL [(.slice none 0 0), (.slice none 0 0)] [(0, 1, p6.1)]).bind fun cs7 =>
    bif (cs7 : List Value).all isCell then
      (bnd ((Heap.new p6.2 (.cells cs7 false 0))) fun h8 =>
      some (((some (nwA p6.2)), (0, ())), h8))
    else
      (none))
def rs_wicketref04_Load : Rs := [(.tmp 2, .ptr), (.tmp 3, (.int .i64))]
def ps_wicketref04_Load : List Ty := [.any]
theorem e_wicketref04_Load (n : Nat) (u0 : Value) (h : Heap) : f_wicketref04_Load n u0 h = fB (sf_wicketref04_Load n) (it_wicketref04_Load n) n c2_wicketref04_Load rs_wicketref04_Load ps_wicketref04_Load (u0, ()) h := by kernel_rfl
noncomputable def s_wicketref04_Load (n : Nat) : Sf1 := mkSf ps_wicketref04_Load rs_wicketref04_Load fun a h => f_wicketref04_Load n a.1 h

/- slices.Clone[[]byte,byte] -/
def c2_slices_Clone_byte_byte : C2 :=
  .seq (.reg [(⟨(some 2), .move (.const (.slice none 0 0)), none⟩, .any)]) <|
  .seq (.seq (.reg [(⟨(some 3), .move (.tmp 0), none⟩, .any),
        (⟨(some 4), .eqv false .slice (.tmp 3) (.const (.slice none 0 0)), none⟩, .bool)]) <|
    .cond (.tmp 4)
      (.seq (.reg [(⟨(some 2), .move (.const (.slice none 0 0)), none⟩, .any)]) <|
      .ret)
      (.skip)) <|
  .seq (.reg [(⟨(some 5), .buildSlice 0 1 [] [], none⟩, .any),
      (⟨(some 6), .move (.tmp 0), none⟩, .any),
      (⟨(some 7), .append 1 1 (.tmp 5) (.tmp 6), none⟩, .any),
      (⟨(some 2), .move (.tmp 7), none⟩, .any)]) <|
  .ret
noncomputable def sf_slices_Clone_byte_byte (n : Nat) : Sf := sfOf []
noncomputable def it_slices_Clone_byte_byte (n : Nat) : It := itOf []
def f_slices_Clone_byte_byte (n : Nat) (u0 : Value) (h : Heap) : Option ((Value × Unit) × Heap) :=
  (eqVals h .slice u0 (.slice none 0 0)).bind fun b0 =>
  bif b0 then
    (some (((.slice none 0 0), ()), h))
  else
    ((fillL [] []).bind fun cs1 =>
    bnd ((Heap.new h (.cells cs1 false 1))) fun h2 =>
    (appendK h2 1 1 (.slice (some ⟨Heap.next h, 0, some 0⟩) 0 0) u0).bind fun p3 =>
    bif !isTuple p3.1 then
      (some ((p3.1, ()), p3.2))
    else
      (none))
def rs_slices_Clone_byte_byte : Rs := [(.tmp 2, .any)]
def ps_slices_Clone_byte_byte : List Ty := [.any]
theorem e_slices_Clone_byte_byte (n : Nat) (u0 : Value) (h : Heap) : f_slices_Clone_byte_byte n u0 h = fB (sf_slices_Clone_byte_byte n) (it_slices_Clone_byte_byte n) n c2_slices_Clone_byte_byte rs_slices_Clone_byte_byte ps_slices_Clone_byte_byte (u0, ()) h := by kernel_rfl
noncomputable def s_slices_Clone_byte_byte (n : Nat) : Sf1 := mkSf ps_slices_Clone_byte_byte rs_slices_Clone_byte_byte fun a h => f_slices_Clone_byte_byte n a.1 h

/- (*wicket/sector.Disk).asked -/
def c2_sector_Disk_asked : C2 :=
  .seq (.reg [(⟨(some 4), .move (.const (.int .i64 0)), none⟩, (.int .i64))]) <|
  .seq (.block 0 <|
      .seq (.reg [(⟨(some 6), .move (.tmp 0), none⟩, .ptr),
          (⟨(some 7), .eqv false .ptr (.tmp 6) (.const (.pointer none)), none⟩, .bool),
          (⟨(some 5), .move (.tmp 7), none⟩, .bool)]) <|
      .cond (.tmp 5)
        (.seq (.reg [(⟨(some 4), .move (.const (.int .i64 1)), none⟩, (.int .i64))]) <|
        .ret)
        (.seq (.cutn [(8, .bool)] <|
            .reg [(⟨(some 9), .move (.tmp 1), none⟩, (.int .i64)),
              (⟨(some 10), .bin .lss (.tmp 9) (.const (.int .i64 0)), none⟩, .bool),
              (⟨(some 11), .move (.tmp 10), none⟩, .bool),
              (⟨(some 12), .move (.tmp 1), some (11, false)⟩, (.int .i64)),
              (⟨(some 13), .move (.tmp 0), some (11, false)⟩, .ptr),
              (⟨(some 14), .nilCheck (.tmp 13), some (11, false)⟩, .ptr),
              (⟨(some 15), .fieldAddr 0 (.tmp 14), some (11, false)⟩, .ptr),
              (⟨(some 16), .load false 1 (.tmp 15), some (11, false)⟩, .any),
              (⟨(some 17), .lenS (.tmp 16), some (11, false)⟩, (.int .i64)),
              (⟨(some 18), .bin .geq (.tmp 12) (.tmp 17), some (11, false)⟩, .bool),
              (⟨(some 19), .pick (.tmp 11) (.const (.bool true)) (.tmp 18), none⟩, .bool),
              (⟨(some 8), .move (.tmp 19), none⟩, .bool)]) <|
        .cond (.tmp 8)
          (.seq (.reg [(⟨(some 4), .move (.const (.int .i64 40)), none⟩, (.int .i64))]) <|
          .ret)
          (.skip))) <|
  .seq (.reg [(⟨(some 4), .move (.const (.int .i64 0)), none⟩, (.int .i64))]) <|
  .ret
noncomputable def sf_sector_Disk_asked (n : Nat) : Sf := sfOf []
noncomputable def it_sector_Disk_asked (n : Nat) : It := itOf []
def f_sector_Disk_asked (n : Nat) (u0 : Option Addr) (u1 : Int) (h : Heap) : Option ((Int × Unit) × Heap) :=
  bif (Option.isNone u0) then
    (some ((1, ()), h))
  else
    (((bif (decide (u1 < 0)) then
        (some ((true, ()), h))
      else
        ((u0).bind fun q0 =>
        (ldT .any h (some (fa q0 0))).bind fun x1 =>
        (lenB x1).bind fun n2 =>
        some (((decide ((n2 : Int) ≤ u1)), ()), h))) : Option ((Bool × Unit) × Heap)).bind fun a3 =>
    bif a3.1.1 then
      (some ((40, ()), a3.2))
    else
      (some ((0, ()), a3.2)))
def rs_sector_Disk_asked : Rs := [(.tmp 4, (.int .i64))]
def ps_sector_Disk_asked : List Ty := [.ptr, (.int .i64)]
theorem e_sector_Disk_asked (n : Nat) (u0 : Option Addr) (u1 : Int) (h : Heap) : f_sector_Disk_asked n u0 u1 h = fB (sf_sector_Disk_asked n) (it_sector_Disk_asked n) n c2_sector_Disk_asked rs_sector_Disk_asked ps_sector_Disk_asked (u0, (u1, ())) h := by kernel_rfl
noncomputable def s_sector_Disk_asked (n : Nat) : Sf1 := mkSf ps_sector_Disk_asked rs_sector_Disk_asked fun a h => f_sector_Disk_asked n a.1 a.2.1 h

/- slices.Backward[[]wicket/sector.waiting,wicket/sector.waiting]$1 -/
def c2_slices_Backward_sector_waiting_sector_waiting_1 : C2 :=
  .seq (.reg [(⟨(some 4), .load false 1 (.tmp 1), none⟩, .any),
      (⟨(some 5), .lenS (.tmp 4), none⟩, (.int .i64)),
      (⟨(some 6), .bin .sub (.tmp 5) (.const (.int .i64 1)), none⟩, (.int .i64)),
      (⟨(some 3), .move (.tmp 6), none⟩, (.int .i64))]) <|
  .block 0 <|
    .loop [(3, (.int .i64))] <|
      .seq (.seq (.reg [(⟨(some 7), .move (.tmp 3), none⟩, (.int .i64)),
            (⟨(some 8), .bin .geq (.tmp 7) (.const (.int .i64 0)), none⟩, .bool)]) <|
        .cond (.tmp 8)
          (.skip)
          (.exit 0)) <|
      .seq (.block 1 <|
          .seq (.reg [(⟨(some 11), .move (.tmp 0), none⟩, .any),
              (⟨(some 12), .move (.tmp 3), none⟩, (.int .i64)),
              (⟨(some 13), .load false 1 (.tmp 1), none⟩, .any),
              (⟨(some 14), .move (.tmp 3), none⟩, (.int .i64)),
              (⟨(some 15), .idxSlice 65 (.tmp 13) (.tmp 14), none⟩, .ptr),
              (⟨(some 16), .load true 65 (.tmp 15), none⟩, .any),
              (⟨(some 17), .callv (.tmp 11) [(.tmp 12), (.tmp 16)], none⟩, .bool),
              (⟨(some 18), .un .not (.tmp 17), none⟩, .bool)]) <|
          .cond (.tmp 18)
            (.ret)
            (.skip)) <|
      .reg [(⟨(some 9), .move (.tmp 3), none⟩, (.int .i64)),
        (⟨(some 10), .bin .sub (.tmp 9) (.const (.int .i64 1)), none⟩, (.int .i64)),
        (⟨(some 3), .move (.tmp 10), none⟩, (.int .i64))]
def f_slices_Backward_sector_waiting_sector_waiting_1_L8 {V : Type} (hp : V → Heap) (up : V → Heap → V) (y : (Int × Value × Unit) → V → Option (Bool × V)) (n : Nat) (u0 : Option Addr) (v2 : Int) (w3 : V) : Option (((Int × Unit) × V) ⊕ (V)) :=
  bif (decide (0 ≤ v2)) then
    ((ldT .any (hp w3) u0).bind fun x4 =>
    (ixB 65 x4 v2).bind fun q5 =>
    (ldA 65 (hp w3) (some q5)).bind fun cs6 =>
    (y (v2, ((.agg ⟨cs6⟩), ())) w3).bind fun p7 =>
    bif (!p7.1) then
      (some (.inr p7.2))
    else
      (some (.inl (((IntKind.i64.wrap (v2 - 1)), ()), p7.2))))
  else
    (some (.inr w3))
noncomputable def sf_slices_Backward_sector_waiting_sector_waiting_1 (n : Nat) : Sf := sfOf []
noncomputable def it_slices_Backward_sector_waiting_sector_waiting_1 (n : Nat) : It := itOf []
def f_slices_Backward_sector_waiting_sector_waiting_1 {V : Type} (hp : V → Heap) (up : V → Heap → V) (y : (Int × Value × Unit) → V → Option (Bool × V)) (n : Nat) (u0 : Option Addr) (w : V) : Option V :=
  (ldT .any (hp w) u0).bind fun x0 =>
  (lenB x0).bind fun n1 =>
  loopT (fun a => f_slices_Backward_sector_waiting_sector_waiting_1_L8 hp up y n u0 a.1.1 a.2) n (((IntKind.i64.wrap ((n1 : Int) - 1)), ()), w)
theorem e_slices_Backward_sector_waiting_sector_waiting_1 {V : Type} (hp : V → Heap) (up : V → Heap → V) (y : (Int × Value × Unit) → V → Option (Bool × V)) (n : Nat) (u0 : Option Addr) (w : V) : f_slices_Backward_sector_waiting_sector_waiting_1 hp up y n u0 w = fI (sf_slices_Backward_sector_waiting_sector_waiting_1 n) (it_slices_Backward_sector_waiting_sector_waiting_1 n) n c2_slices_Backward_sector_waiting_sector_waiting_1 [] [.ptr] [(.int .i64), .any] hp up y () (u0, ()) w := by kernel_rfl
noncomputable def i_slices_Backward_sector_waiting_sector_waiting_1 (n : Nat) : It1 := mkIt [] [.ptr] [(.int .i64), .any] fun hp up y _ a2 v => f_slices_Backward_sector_waiting_sector_waiting_1 hp up y n a2.1 v

/- (*wicket/sector.Disk).Copy -/
def c2_sector_Disk_Copy : C2 :=
  .seq (.reg [(⟨(some 2), .move (.const (.pointer none)), none⟩, .ptr)]) <|
  .seq (.seq (.reg [(⟨(some 3), .move (.tmp 0), none⟩, .ptr),
        (⟨(some 4), .eqv false .ptr (.tmp 3) (.const (.pointer none)), none⟩, .bool)]) <|
    .cond (.tmp 4)
      (.seq (.reg [(⟨(some 2), .move (.const (.pointer none)), none⟩, .ptr)]) <|
      .ret)
      (.skip)) <|
  .seq (.regd [(⟨0, [], false, ⟨(some 5), .move (.tmp 0), none⟩⟩, .ptr),
      (⟨1, [0], false, ⟨(some 6), .nilCheck (.tmp 5), none⟩⟩, .ptr),
      (⟨2, [1, 0], false, ⟨(some 7), .fieldAddr 0 (.tmp 6), none⟩⟩, .ptr),
      (⟨3, [2, 1, 0], false, ⟨(some 8), .load false 1 (.tmp 7), none⟩⟩, .any),
      (⟨5, [], false, ⟨(some 10), .move (.tmp 0), none⟩⟩, .ptr),
      (⟨6, [5], false, ⟨(some 11), .nilCheck (.tmp 10), none⟩⟩, .ptr),
      (⟨7, [6, 5], false, ⟨(some 12), .fieldAddr 1 (.tmp 11), none⟩⟩, .ptr),
      (⟨8, [7, 6, 5], false, ⟨(some 13), .load false 1 (.tmp 12), none⟩⟩, .any),
      (⟨4, [3, 2, 1, 0], true, ⟨(some 9), .call k_slices_Clone_sector_data_sector_data [(.tmp 8)], none⟩⟩, .any),
      (⟨9, [8, 4, 7, 6, 5, 3, 2, 1, 0], true, ⟨(some 14), .call k_slices_Clone_sector_waiting_sector_waiting [(.tmp 13)], none⟩⟩, .any),
      (⟨10, [4, 9, 3, 2, 1, 0, 8, 7, 6, 5], false, ⟨(some 15), .build [(.slice none 0 0), (.slice none 0 0)] [(0, 1, (.tmp 9)), (1, 1, (.tmp 14))], none⟩⟩, .any),
      (⟨11, [10, 4, 9, 3, 2, 1, 0, 8, 7, 6, 5], false, ⟨(some 16), .box (.tmp 15), none⟩⟩, .ptr),
      (⟨12, [11, 9, 0, 1, 2, 3, 4, 5, 6, 7, 8, 10], false, ⟨(some 2), .move (.tmp 16), none⟩⟩, .ptr)]) <|
  .ret
noncomputable def sf_sector_Disk_Copy (n : Nat) : Sf := sfOf [(k_slices_Clone_sector_data_sector_data, s_slices_Clone_sector_data_sector_data n), (k_slices_Clone_sector_waiting_sector_waiting, s_slices_Clone_sector_waiting_sector_waiting n)]
noncomputable def it_sector_Disk_Copy (n : Nat) : It := itOf []
def f_sector_Disk_Copy (n : Nat) (u0 : Option Addr) (h : Heap) : Option ((Option Addr × Unit) × Heap) :=
  bif (Option.isNone u0) then
    (some ((none, ()), h))
  else
    ((u0).bind fun q0 =>
    (ldT .any h (some (fa q0 0))).bind fun x1 =>
    (u0).bind fun q2 =>
    (ldT .any h (some (fa q2 1))).bind fun x3 =>
    (f_slices_Clone_sector_data_sector_data n x1 (hid h [] ((Addr.block (fa q2 1)) :: []))).bind fun p4 =>
    bnd (Heap.putBack p4.2 h ([] ++ ((Addr.block (fa q2 1)) :: []))) fun h5 =>
    (f_slices_Clone_sector_waiting_sector_waiting n x3 h5).bind fun p6 =>
    (fillL [(.slice none 0 0), (.slice none 0 0)] [(0, 1, p4.1.1), (1, 1, p6.1.1)]).bind fun cs7 =>
    bif (cs7 : List Value).all isCell then
      (bnd ((Heap.new p6.2 (.cells cs7 false 0))) fun h8 =>
      some (((some (nwA p6.2)), ()), h8))
    else
      (none))
def rs_sector_Disk_Copy : Rs := [(.tmp 2, .ptr)]
def ps_sector_Disk_Copy : List Ty := [.ptr]
theorem e_sector_Disk_Copy (n : Nat) (u0 : Option Addr) (h : Heap) : f_sector_Disk_Copy n u0 h = fB (sf_sector_Disk_Copy n) (it_sector_Disk_Copy n) n c2_sector_Disk_Copy rs_sector_Disk_Copy ps_sector_Disk_Copy (u0, ()) h := by kernel_rfl
noncomputable def s_sector_Disk_Copy (n : Nat) : Sf1 := mkSf ps_sector_Disk_Copy rs_sector_Disk_Copy fun a h => f_sector_Disk_Copy n a.1 h

/- (*wicket/sector.Disk).Waiting -/
def c2_sector_Disk_Waiting : C2 :=
  .seq (.reg [(⟨(some 2), .move (.const (.slice none 0 0)), none⟩, .any)]) <|
  .seq (.seq (.reg [(⟨(some 6), .move (.tmp 0), none⟩, .ptr),
        (⟨(some 7), .eqv false .ptr (.tmp 6) (.const (.pointer none)), none⟩, .bool)]) <|
    .cond (.tmp 7)
      (.seq (.reg [(⟨(some 2), .move (.const (.slice none 0 0)), none⟩, .any)]) <|
      .ret)
      (.skip)) <|
  .seq (.reg [(⟨(some 3), .move (.const (.slice none 0 0)), none⟩, .any)]) <|
  .seq (.seq (.reg [(⟨(some 8), .move (.tmp 0), none⟩, .ptr),
        (⟨(some 9), .nilCheck (.tmp 8), none⟩, .ptr),
        (⟨(some 10), .fieldAddr 1 (.tmp 9), none⟩, .ptr),
        (⟨(some 11), .load false 1 (.tmp 10), none⟩, .any),
        (⟨(some 12), .lenS (.tmp 11), none⟩, (.int .i64)),
        (⟨(some 13), .move (.const (.int .i64 0)), none⟩, (.int .i64))]) <|
    .block 0 <|
      .loop [(3, .any), (13, (.int .i64))] <|
        .seq (.reg [(⟨(some 14), .bin .lss (.tmp 13) (.tmp 12), none⟩, .any)]) <|
        .seq (.cond (.tmp 14)
            (.skip)
            (.exit 0)) <|
        .seq (.block 1 <|
            .seq (.reg [(⟨(some 15), .idxSlice 65 (.tmp 11) (.tmp 13), none⟩, .ptr),
                (⟨(some 16), .load true 65 (.tmp 15), none⟩, .any),
                (⟨(some 5), .alloc [(.int .i64 0), (.int .u8 0), (.int .u8 0), (.int .u8 0), (.int .u8 0), (.int .u8 0), (.int .u8 0), (.int .u8 0), (.int .u8 0), (.int .u8 0), (.int .u8 0), (.int .u8 0), (.int .u8 0), (.int .u8 0), (.int .u8 0), (.int .u8 0), (.int .u8 0), (.int .u8 0), (.int .u8 0), (.int .u8 0), (.int .u8 0), (.int .u8 0), (.int .u8 0), (.int .u8 0), (.int .u8 0), (.int .u8 0), (.int .u8 0), (.int .u8 0), (.int .u8 0), (.int .u8 0), (.int .u8 0), (.int .u8 0), (.int .u8 0), (.int .u8 0), (.int .u8 0), (.int .u8 0), (.int .u8 0), (.int .u8 0), (.int .u8 0), (.int .u8 0), (.int .u8 0), (.int .u8 0), (.int .u8 0), (.int .u8 0), (.int .u8 0), (.int .u8 0), (.int .u8 0), (.int .u8 0), (.int .u8 0), (.int .u8 0), (.int .u8 0), (.int .u8 0), (.int .u8 0), (.int .u8 0), (.int .u8 0), (.int .u8 0), (.int .u8 0), (.int .u8 0), (.int .u8 0), (.int .u8 0), (.int .u8 0), (.int .u8 0), (.int .u8 0), (.int .u8 0), (.int .u8 0)], none⟩, .ptr),
                (⟨none, .store 65 (.tmp 5) (.tmp 16), none⟩, .any)]) <|
            .regd [(⟨0, [], false, ⟨(some 17), .move (.tmp 3), none⟩⟩, .any),
              (⟨1, [], false, ⟨(some 18), .fieldAddr 0 (.tmp 5), none⟩⟩, .ptr),
              (⟨2, [1], false, ⟨(some 19), .load false 1 (.tmp 18), none⟩⟩, (.int .i64)),
              (⟨3, [], false, ⟨(some 20), .fieldAddr 1 (.tmp 5), none⟩⟩, .ptr),
              (⟨4, [3], false, ⟨(some 21), .sliceArr 64 1 (.tmp 20) none none none, none⟩⟩, .any),
              (⟨5, [4, 3], true, ⟨(some 22), .call k_slices_Clone_byte_byte [(.tmp 21)], none⟩⟩, .any),
              (⟨6, [2, 5, 1, 4, 3], false, ⟨(some 23), .build [(.int .i64 0), (.slice none 0 0)] [(0, 1, (.tmp 19)), (1, 1, (.tmp 22))], none⟩⟩, .any),
              (⟨7, [6, 2, 5, 1, 4, 3], false, ⟨(some 24), .buildSlice 1 2 [(.int .i64 0), (.slice none 0 0)] [(0, 2, (.tmp 23))], none⟩⟩, .any),
              (⟨8, [0, 7, 5, 6, 2, 1, 4, 3], true, ⟨(some 25), .append 32 2 (.tmp 17) (.tmp 24), none⟩⟩, .any),
              (⟨9, [8, 0, 1, 2, 3, 4, 5, 6, 7], true, ⟨(some 3), .move (.tmp 25), none⟩⟩, .any)]) <|
        .reg [(⟨(some 26), .bin .add (.tmp 13) (.const (.int .i64 1)), none⟩, (.int .i64)),
          (⟨(some 13), .move (.tmp 26), none⟩, (.int .i64))]) <|
  .seq (.reg [(⟨(some 27), .move (.tmp 3), none⟩, .any),
      (⟨(some 2), .move (.tmp 27), none⟩, .any)]) <|
  .ret
def f_sector_Disk_Waiting_L18 (n : Nat) (x1 : Value) (n2 : Nat) (v3 : Value) (v4 : Int) (h5 : Heap) : Option (((Value × Int × Unit) × Heap) ⊕ ((Value × Unit) × Heap)) :=
  bif (decide (v4 < (n2 : Int))) then
    ((ixB 65 x1 v4).bind fun q6 =>
    (ldA 65 h5 (some q6)).bind fun cs7 =>
    bnd ((Heap.new h5 (.cells [(.int .i64 0), (.int .u8 0), (.int .u8 0), (.int .u8 0), (.int .u8 0), (.int .u8 0), (.int .u8 0), (.int .u8 0), (.int .u8 0), (.int .u8 0), (.int .u8 0), (.int .u8 0), (.int .u8 0), (.int .u8 0), (.int .u8 0), (.int .u8 0), (.int .u8 0), (.int .u8 0), (.int .u8 0), (.int .u8 0), (.int .u8 0), (.int .u8 0), (.int .u8 0), (.int .u8 0), (.int .u8 0), (.int .u8 0), (.int .u8 0), (.int .u8 0), (.int .u8 0), (.int .u8 0), (.int .u8 0), (.int .u8 0), (.int .u8 0), (.int .u8 0), (.int .u8 0), (.int .u8 0), (.int .u8 0), (.int .u8 0), (.int .u8 0), (.int .u8 0), (.int .u8 0), (.int .u8 0), (.int .u8 0), (.int .u8 0), (.int .u8 0), (.int .u8 0), (.int .u8 0), (.int .u8 0), (.int .u8 0), (.int .u8 0), (.int .u8 0), (.int .u8 0), (.int .u8 0), (.int .u8 0), (.int .u8 0), (.int .u8 0), (.int .u8 0), (.int .u8 0), (.int .u8 0), (.int .u8 0), (.int .u8 0), (.int .u8 0), (.int .u8 0), (.int .u8 0), (.int .u8 0)] false 0))) fun h8 =>
    (stB 65 (.agg ⟨cs7⟩) h8 (some (nwA h5))).bind fun h9 =>
    (ldT (.int .i64) h9 (some (fa (nwA h5) 0))).bind fun x10 =>
    (sliceArrK h9 64 1 none none (.pointer (some (fa (nwA h5) 1)))).bind fun p11 =>
    (f_slices_Clone_byte_byte n p11.1 (hid h9 [] ((Addr.block (fa (nwA h5) 0)) :: []))).bind fun p12 =>
    bnd (Heap.putBack p12.2 h9 ([] ++ ((Addr.block (fa (nwA h5) 0)) :: []))) fun h13 =>
    (fillL [(.int .i64 0), (.slice none 0 0)] [(0, 1, (.int .i64 x10)), (1, 1, p12.1.1)]).bind fun cs14 =>
    (fillL [(.int .i64 0), (.slice none 0 0)] [(0, 2, (.agg ⟨cs14⟩))]).bind fun cs15 =>
    bnd ((Heap.new h13 (.cells cs15 false 2))) fun h16 =>
    (appendK h16 32 2 v3 (.slice (some ⟨Heap.next h13, 0, some 0⟩) 1 1)).bind fun p17 =>
    some (.inl ((p17.1, ((IntKind.i64.wrap (v4 + 1)), ())), p17.2)))
  else
    (Option.map Sum.inr (bif !isTuple v3 then
      (some ((v3, ()), h5))
    else
      (none)))
noncomputable def sf_sector_Disk_Waiting (n : Nat) : Sf := sfOf [(k_slices_Clone_byte_byte, s_slices_Clone_byte_byte n)]
noncomputable def it_sector_Disk_Waiting (n : Nat) : It := itOf []
def f_sector_Disk_Waiting (n : Nat) (u0 : Option Addr) (h : Heap) : Option ((Value × Unit) × Heap) :=
  bif (Option.isNone u0) then
    (some (((.slice none 0 0), ()), h))
  else
    ((u0).bind fun q0 =>
    (ldT .any h (some (fa q0 1))).bind fun x1 =>
    (lenB x1).bind fun n2 =>
    loopT (fun a => f_sector_Disk_Waiting_L18 n x1 n2 a.1.1 a.1.2.1 a.2) n (((.slice none 0 0), (0, ())), h))
def rs_sector_Disk_Waiting : Rs := [(.tmp 2, .any)]
def ps_sector_Disk_Waiting : List Ty := [.ptr]
theorem e_sector_Disk_Waiting (n : Nat) (u0 : Option Addr) (h : Heap) : f_sector_Disk_Waiting n u0 h = fB (sf_sector_Disk_Waiting n) (it_sector_Disk_Waiting n) n c2_sector_Disk_Waiting rs_sector_Disk_Waiting ps_sector_Disk_Waiting (u0, ()) h := by kernel_rfl
noncomputable def s_sector_Disk_Waiting (n : Nat) : Sf1 := mkSf ps_sector_Disk_Waiting rs_sector_Disk_Waiting fun a h => f_sector_Disk_Waiting n a.1 h

/- (*wicket/sector.Disk).Write -/
def c2_sector_Disk_Write : C2 :=
  .seq (.reg [(⟨(some 6), .move (.const (.int .i64 0)), none⟩, (.int .i64))]) <|
  .seq (.seq (.reg [(⟨(some 8), .move (.tmp 0), none⟩, .ptr),
        (⟨(some 9), .move (.tmp 1), none⟩, (.int .i64)),
        (⟨(some 10), .call k_sector_Disk_asked [(.tmp 8), (.tmp 9)], none⟩, (.int .i64)),
        (⟨(some 7), .move (.tmp 10), none⟩, (.int .i64))]) <|
    .seq (.reg [(⟨(some 11), .move (.tmp 7), none⟩, (.int .i64)),
        (⟨(some 12), .bin .neq (.tmp 11) (.const (.int .i64 0)), none⟩, .bool)]) <|
    .cond (.tmp 12)
      (.seq (.reg [(⟨(some 13), .move (.tmp 7), none⟩, (.int .i64)),
          (⟨(some 6), .move (.tmp 13), none⟩, (.int .i64))]) <|
      .ret)
      (.skip)) <|
  .seq (.seq (.reg [(⟨(some 14), .move (.tmp 2), none⟩, .any),
        (⟨(some 15), .lenS (.tmp 14), none⟩, (.int .i64)),
        (⟨(some 16), .bin .neq (.tmp 15) (.const (.int .i64 64)), none⟩, .bool)]) <|
    .cond (.tmp 16)
      (.seq (.reg [(⟨(some 6), .move (.const (.int .i64 2)), none⟩, (.int .i64))]) <|
      .ret)
      (.skip)) <|
  .seq (.regd [(⟨0, [], false, ⟨(some 17), .move (.tmp 0), none⟩⟩, .ptr),
      (⟨1, [], false, ⟨(some 18), .move (.tmp 0), none⟩⟩, .ptr),
      (⟨2, [1], false, ⟨(some 19), .nilCheck (.tmp 18), none⟩⟩, .ptr),
      (⟨3, [2, 1], false, ⟨(some 20), .fieldAddr 1 (.tmp 19), none⟩⟩, .ptr),
      (⟨4, [3, 2, 1], false, ⟨(some 21), .load false 1 (.tmp 20), none⟩⟩, .any),
      (⟨5, [], false, ⟨(some 22), .move (.tmp 1), none⟩⟩, (.int .i64)),
      (⟨6, [], false, ⟨(some 23), .move (.tmp 2), none⟩⟩, .any),
      (⟨7, [6], false, ⟨(some 24), .arrAt 64 (.tmp 23), none⟩⟩, .ptr),
      (⟨8, [7, 6], false, ⟨(some 25), .load true 64 (.tmp 24), none⟩⟩, .any),
      (⟨9, [5, 8, 7, 6], false, ⟨(some 26), .build [(.int .i64 0), (.int .u8 0), (.int .u8 0), (.int .u8 0), (.int .u8 0), (.int .u8 0), (.int .u8 0), (.int .u8 0), (.int .u8 0), (.int .u8 0), (.int .u8 0), (.int .u8 0), (.int .u8 0), (.int .u8 0), (.int .u8 0), (.int .u8 0), (.int .u8 0), (.int .u8 0), (.int .u8 0), (.int .u8 0), (.int .u8 0), (.int .u8 0), (.int .u8 0), (.int .u8 0), (.int .u8 0), (.int .u8 0), (.int .u8 0), (.int .u8 0), (.int .u8 0), (.int .u8 0), (.int .u8 0), (.int .u8 0), (.int .u8 0), (.int .u8 0), (.int .u8 0), (.int .u8 0), (.int .u8 0), (.int .u8 0), (.int .u8 0), (.int .u8 0), (.int .u8 0), (.int .u8 0), (.int .u8 0), (.int .u8 0), (.int .u8 0), (.int .u8 0), (.int .u8 0), (.int .u8 0), (.int .u8 0), (.int .u8 0), (.int .u8 0), (.int .u8 0), (.int .u8 0), (.int .u8 0), (.int .u8 0), (.int .u8 0), (.int .u8 0), (.int .u8 0), (.int .u8 0), (.int .u8 0), (.int .u8 0), (.int .u8 0), (.int .u8 0), (.int .u8 0), (.int .u8 0)] [(0, 1, (.tmp 22)), (1, 64, (.tmp 25))], none⟩⟩, .any),
      (⟨10, [9, 5, 8, 7, 6], false, ⟨(some 27), .buildSlice 1 65 [(.int .i64 0), (.int .u8 0), (.int .u8 0), (.int .u8 0), (.int .u8 0), (.int .u8 0), (.int .u8 0), (.int .u8 0), (.int .u8 0), (.int .u8 0), (.int .u8 0), (.int .u8 0), (.int .u8 0), (.int .u8 0), (.int .u8 0), (.int .u8 0), (.int .u8 0), (.int .u8 0), (.int .u8 0), (.int .u8 0), (.int .u8 0), (.int .u8 0), (.int .u8 0), (.int .u8 0), (.int .u8 0), (.int .u8 0), (.int .u8 0), (.int .u8 0), (.int .u8 0), (.int .u8 0), (.int .u8 0), (.int .u8 0), (.int .u8 0), (.int .u8 0), (.int .u8 0), (.int .u8 0), (.int .u8 0), (.int .u8 0), (.int .u8 0), (.int .u8 0), (.int .u8 0), (.int .u8 0), (.int .u8 0), (.int .u8 0), (.int .u8 0), (.int .u8 0), (.int .u8 0), (.int .u8 0), (.int .u8 0), (.int .u8 0), (.int .u8 0), (.int .u8 0), (.int .u8 0), (.int .u8 0), (.int .u8 0), (.int .u8 0), (.int .u8 0), (.int .u8 0), (.int .u8 0), (.int .u8 0), (.int .u8 0), (.int .u8 0), (.int .u8 0), (.int .u8 0), (.int .u8 0)] [(0, 65, (.tmp 26))], none⟩⟩, .any),
      (⟨11, [4, 10, 3, 2, 1, 9, 5, 8, 7, 6], true, ⟨(some 28), .append 72 65 (.tmp 21) (.tmp 27), none⟩⟩, .any),
      (⟨12, [0, 1, 2, 3, 4, 5, 6, 7, 8, 9, 10, 11], false, ⟨(some 29), .nilCheck (.tmp 17), none⟩⟩, .ptr),
      (⟨13, [12, 0, 1, 2, 3, 4, 5, 6, 7, 8, 9, 10, 11], false, ⟨(some 30), .fieldAddr 1 (.tmp 29), none⟩⟩, .ptr),
      (⟨14, [13, 11, 0, 1, 2, 3, 4, 5, 6, 7, 8, 9, 10, 12], true, ⟨none, .store 1 (.tmp 30) (.tmp 28), none⟩⟩, .any)]) <|
  .seq (.reg [(⟨(some 6), .move (.const (.int .i64 0)), none⟩, (.int .i64))]) <|
  .ret
noncomputable def sf_sector_Disk_Write (n : Nat) : Sf := sfOf [(k_sector_Disk_asked, s_sector_Disk_asked n)]
noncomputable def it_sector_Disk_Write (n : Nat) : It := itOf []
def f_sector_Disk_Write (n : Nat) (u0 : Option Addr) (u1 : Int) (u2 : Value) (h : Heap) : Option ((Int × Unit) × Heap) :=
  (f_sector_Disk_asked n u0 u1 h).bind fun p0 =>
  bif (!decide (p0.1.1 = 0)) then
    (some ((p0.1.1, ()), p0.2))
  else
    ((lenB u2).bind fun n1 =>
    bif (!decide ((n1 : Int) = 64)) then
      (some ((2, ()), p0.2))
    else
      ((u0).bind fun q2 =>
      (ldT .any p0.2 (some (fa q2 1))).bind fun x3 =>
      (arrB p0.2 64 u2).bind fun q4 =>
      (ldA 64 p0.2 q4).bind fun cs5 =>
      (fillL [(.int .i64 0), (.int .u8 0), (.int .u8 0), (.int .u8 0), (.int .u8 0), (.int .u8 0), (.int .u8 0), (.int .u8 0), (.int .u8 0), (.int .u8 0), (.int .u8 0), (.int .u8 0), (.int .u8 0), (.int .u8 0), (.int .u8 0), (.int .u8 0), (.int .u8 0), (.int .u8 0), (.int .u8 0), (.int .u8 0), (.int .u8 0), (.int .u8 0), (.int .u8 0), (.int .u8 0), (.int .u8 0), (.int .u8 0), (.int .u8 0), (.int .u8 0), (.int .u8 0), (.int .u8 0), (.int .u8 0), (.int .u8 0), (.int .u8 0), (.int .u8 0), (.int .u8 0), (.int .u8 0), (.int .u8 0), (.int .u8 0), (.int .u8 0), (.int .u8 0), (.int .u8 0), (.int .u8 0), (.int .u8 0), (.int .u8 0), (.int .u8 0), (.int .u8 0), (.int .u8 0), (.int .u8 0), (.int .u8 0), (.int .u8 0), (.int .u8 0), (.int .u8 0), (.int .u8 0), (.int .u8 0), (.int .u8 0), (.int .u8 0), (.int .u8 0), (.int .u8 0), (.int .u8 0), (.int .u8 0), (.int .u8 0), (.int .u8 0), (.int .u8 0), (.int .u8 0), (.int .u8 0)] [(0, 1, (.int .i64 u1)), (1, 64, (.agg ⟨cs5⟩))]).bind fun cs6 =>
      (fillL [(.int .i64 0), (.int .u8 0), (.int .u8 0), (.int .u8 0), (.int .u8 0), (.int .u8 0), (.int .u8 0), (.int .u8 0), (.int .u8 0), (.int .u8 0), (.int .u8 0), (.int .u8 0), (.int .u8 0), (.int .u8 0), (.int .u8 0), (.int .u8 0), (.int .u8 0), (.int .u8 0), (.int .u8 0), (.int .u8 0), (.int .u8 0), (.int .u8 0), (.int .u8 0), (.int .u8 0), (.int .u8 0), (.int .u8 0), (.int .u8 0), (.int .u8 0), (.int .u8 0), (.int .u8 0), (.int .u8 0), (.int .u8 0), (.int .u8 0), (.int .u8 0), (.int .u8 0), (.int .u8 0), (.int .u8 0), (.int .u8 0), (.int .u8 0), (.int .u8 0), (.int .u8 0), (.int .u8 0), (.int .u8 0), (.int .u8 0), (.int .u8 0), (.int .u8 0), (.int .u8 0), (.int .u8 0), (.int .u8 0), (.int .u8 0), (.int .u8 0), (.int .u8 0), (.int .u8 0), (.int .u8 0), (.int .u8 0), (.int .u8 0), (.int .u8 0), (.int .u8 0), (.int .u8 0), (.int .u8 0), (.int .u8 0), (.int .u8 0), (.int .u8 0), (.int .u8 0), (.int .u8 0)] [(0, 65, (.agg ⟨cs6⟩))]).bind fun cs7 =>
      bnd ((Heap.new p0.2 (.cells cs7 false 65))) fun h8 =>
      (appendK h8 72 65 x3 (.slice (some ⟨Heap.next p0.2, 0, some 0⟩) 1 1)).bind fun p9 =>
      (u0).bind fun q10 =>
      (stB 1 p9.1 p9.2 (some (fa q10 1))).bind fun h11 =>
      some ((0, ()), h11)))
def rs_sector_Disk_Write : Rs := [(.tmp 6, (.int .i64))]
def ps_sector_Disk_Write : List Ty := [.ptr, (.int .i64), .any]
theorem e_sector_Disk_Write (n : Nat) (u0 : Option Addr) (u1 : Int) (u2 : Value) (h : Heap) : f_sector_Disk_Write n u0 u1 u2 h = fB (sf_sector_Disk_Write n) (it_sector_Disk_Write n) n c2_sector_Disk_Write rs_sector_Disk_Write ps_sector_Disk_Write (u0, (u1, (u2, ()))) h := by kernel_rfl
noncomputable def s_sector_Disk_Write (n : Nat) : Sf1 := mkSf ps_sector_Disk_Write rs_sector_Disk_Write fun a h => f_sector_Disk_Write n a.1 a.2.1 a.2.2.1 h

/- (*wicket/wicketref04.Disk).Read -/
def c2_wicketref04_Disk_Read : C2 :=
  .seq (.reg [(⟨(some 4), .move (.const (.slice none 0 0)), none⟩, .any),
      (⟨(some 5), .move (.const (.int .i64 0)), none⟩, (.int .i64))]) <|
  .seq (.seq (.cutn [(15, .bool)] <|
        .reg [(⟨(some 8), .move (.tmp 1), none⟩, (.int .i64)),
          (⟨(some 9), .bin .lss (.tmp 8) (.const (.int .i64 0)), none⟩, .bool),
          (⟨(some 10), .move (.tmp 9), none⟩, .bool),
          (⟨(some 11), .move (.tmp 1), some (10, false)⟩, (.int .i64)),
          (⟨(some 12), .move (.tmp 0), some (10, false)⟩, .ptr),
          (⟨(some 13), .call k_wicketref04_Disk_Len [(.tmp 12)], some (10, false)⟩, (.int .i64)),
          (⟨(some 14), .bin .geq (.tmp 11) (.tmp 13), some (10, false)⟩, .bool),
          (⟨(some 15), .pick (.tmp 10) (.const (.bool true)) (.tmp 14), none⟩, .bool)]) <|
    .cond (.tmp 15)
      (.seq (.reg [(⟨(some 4), .move (.const (.slice none 0 0)), none⟩, .any),
          (⟨(some 5), .move (.const (.int .i64 40)), none⟩, (.int .i64))]) <|
      .ret)
      (.skip)) <|
  .seq (.reg [(⟨(some 16), .buildSlice 0 1 [] [], none⟩, .any),
      (⟨(some 17), .move (.tmp 0), none⟩, .ptr),
      (⟨(some 18), .nilCheck (.tmp 17), none⟩, .ptr),
      (⟨(some 19), .fieldAddr 0 (.tmp 18), none⟩, .ptr),
      (⟨(some 20), .load false 1 (.tmp 19), none⟩, .any),
      (⟨(some 21), .move (.tmp 1), none⟩, (.int .i64)),
      (⟨(some 22), .bin .mul (.tmp 21) (.const (.int .i64 64)), none⟩, (.int .i64)),
      (⟨(some 23), .move (.tmp 1), none⟩, (.int .i64)),
      (⟨(some 24), .bin .add (.tmp 23) (.const (.int .i64 1)), none⟩, (.int .i64)),
      (⟨(some 25), .bin .mul (.tmp 24) (.const (.int .i64 64)), none⟩, (.int .i64)),
      (⟨(some 26), .slice 1 (.tmp 20) (some (.tmp 22)) (some (.tmp 25)) none, none⟩, .any),
      (⟨(some 27), .append 1 1 (.tmp 16) (.tmp 26), none⟩, .any),
      (⟨(some 6), .move (.tmp 27), none⟩, .any)]) <|
  .seq (.cutn [(6, .any)] <|
      .seq (.reg [(⟨(some 7), .move (.const (.int .i64 0)), none⟩, (.int .i64))]) <|
      .block 0 <|
        .loop [(6, .any), (7, (.int .i64))] <|
          .seq (.seq (.reg [(⟨(some 28), .move (.tmp 7), none⟩, (.int .i64)),
                (⟨(some 29), .move (.tmp 0), none⟩, .ptr),
                (⟨(some 30), .nilCheck (.tmp 29), none⟩, .ptr),
                (⟨(some 31), .fieldAddr 1 (.tmp 30), none⟩, .ptr),
                (⟨(some 32), .load false 1 (.tmp 31), none⟩, .any),
                (⟨(some 33), .lenS (.tmp 32), none⟩, (.int .i64)),
                (⟨(some 34), .bin .lss (.tmp 28) (.tmp 33), none⟩, .bool)]) <|
            .cond (.tmp 34)
              (.skip)
              (.exit 0)) <|
          .seq (.cutn [(6, .any)] <|
              .block 1 <|
                .seq (.reg [(⟨(some 37), .move (.tmp 0), none⟩, .ptr),
                    (⟨(some 38), .nilCheck (.tmp 37), none⟩, .ptr),
                    (⟨(some 39), .fieldAddr 1 (.tmp 38), none⟩, .ptr),
                    (⟨(some 40), .load false 1 (.tmp 39), none⟩, .any),
                    (⟨(some 41), .move (.tmp 7), none⟩, (.int .i64)),
                    (⟨(some 42), .idxSlice 2 (.tmp 40) (.tmp 41), none⟩, .ptr),
                    (⟨(some 43), .fieldAddr 0 (.tmp 42), none⟩, .ptr),
                    (⟨(some 44), .load false 1 (.tmp 43), none⟩, (.int .i64)),
                    (⟨(some 45), .move (.tmp 1), none⟩, (.int .i64)),
                    (⟨(some 46), .bin .eql (.tmp 44) (.tmp 45), none⟩, .bool)]) <|
                .cond (.tmp 46)
                  (.reg [(⟨(some 47), .buildSlice 0 1 [] [], none⟩, .any),
                    (⟨(some 48), .move (.tmp 0), none⟩, .ptr),
                    (⟨(some 49), .nilCheck (.tmp 48), none⟩, .ptr),
                    (⟨(some 50), .fieldAddr 1 (.tmp 49), none⟩, .ptr),
                    (⟨(some 51), .load false 1 (.tmp 50), none⟩, .any),
                    (⟨(some 52), .move (.tmp 7), none⟩, (.int .i64)),
                    (⟨(some 53), .idxSlice 2 (.tmp 51) (.tmp 52), none⟩, .ptr),
                    (⟨(some 54), .fieldAddr 1 (.tmp 53), none⟩, .ptr),
                    (⟨(some 55), .load false 1 (.tmp 54), none⟩, .any),
                    (⟨(some 56), .append 1 1 (.tmp 47) (.tmp 55), none⟩, .any),
                    (⟨(some 6), .move (.tmp 56), none⟩, .any)])
                  (.skip)) <|
          .reg [(⟨(some 35), .move (.tmp 7), none⟩, (.int .i64)),
            (⟨(some 36), .bin .add (.tmp 35) (.const (.int .i64 1)), none⟩, (.int .i64)),
            (⟨(some 7), .move (.tmp 36), none⟩, (.int .i64))]) <|
  .seq (.reg [(⟨(some 57), .move (.tmp 6), none⟩, .any),
      (⟨(some 4), .move (.tmp 57), none⟩, .any),
      (⟨(some 5), .move (.const (.int .i64 0)), none⟩, (.int .i64))]) <|
  .ret
def f_wicketref04_Disk_Read_L26 (n : Nat) (u1 : Int) (u0 : Option Addr) (v8 : Value) (v9 : Int) (h10 : Heap) : Option (((Value × Int × Unit) × Heap) ⊕ ((Value × Unit) × Heap)) :=
  (u0).bind fun q11 =>
  (ldT .any h10 (some (fa q11 1))).bind fun x12 =>
  (lenB x12).bind fun n13 =>
  bif (decide (v9 < (n13 : Int))) then
    ((((u0).bind fun q14 =>
      (ldT .any h10 (some (fa q14 1))).bind fun x15 =>
      (ixB 2 x15 v9).bind fun q16 =>
      (ldT (.int .i64) h10 (some (fa q16 0))).bind fun x17 =>
      bif (decide (x17 = u1)) then
        ((fillL [] []).bind fun cs18 =>
        bnd ((Heap.new h10 (.cells cs18 false 1))) fun h19 =>
        (u0).bind fun q20 =>
        (ldT .any h19 (some (fa q20 1))).bind fun x21 =>
        (ixB 2 x21 v9).bind fun q22 =>
        (ldT .any h19 (some (fa q22 1))).bind fun x23 =>
        (appendK h19 1 1 (.slice (some ⟨Heap.next h10, 0, some 0⟩) 0 0) x23).bind fun p24 =>
        some ((p24.1, ()), p24.2))
      else
        (some ((v8, ()), h10))) : Option ((Value × Unit) × Heap)).bind fun a25 =>
    some (.inl ((a25.1.1, ((IntKind.i64.wrap (v9 + 1)), ())), a25.2)))
  else
    (some (.inr ((v8, ()), h10)))
noncomputable def sf_wicketref04_Disk_Read (n : Nat) : Sf := sfOf [(k_wicketref04_Disk_Len, s_wicketref04_Disk_Len n)]
noncomputable def it_wicketref04_Disk_Read (n : Nat) : It := itOf []
def f_wicketref04_Disk_Read (n : Nat) (u0 : Option Addr) (u1 : Int) (h : Heap) : Option ((Value × Int × Unit) × Heap) :=
  ((bif (decide (u1 < 0)) then
      (some ((true, ()), h))
    else
      ((f_wicketref04_Disk_Len n u0 h).bind fun p0 =>
      some (((decide (p0.1.1 ≤ u1)), ()), p0.2))) : Option ((Bool × Unit) × Heap)).bind fun a1 =>
  bif a1.1.1 then
    (some (((.slice none 0 0), (40, ())), a1.2))
  else
    ((fillL [] []).bind fun cs2 =>
    bnd ((Heap.new a1.2 (.cells cs2 false 1))) fun h3 =>
    (u0).bind fun q4 =>
    (ldT .any h3 (some (fa q4 0))).bind fun x5 =>
    (sliceK h3 1 (some (.int .i64 (IntKind.i64.wrap (u1 * 64)))) (some (.int .i64 (IntKind.i64.wrap ((IntKind.i64.wrap (u1 + 1)) * 64)))) none x5).bind fun p6 =>
    (appendK h3 1 1 (.slice (some ⟨Heap.next a1.2, 0, some 0⟩) 0 0) p6.1).bind fun p7 =>
    ((loopT (fun a => f_wicketref04_Disk_Read_L26 n u1 u0 a.1.1 a.1.2.1 a.2) n ((p7.1, (0, ())), p7.2)) : Option ((Value × Unit) × Heap)).bind fun a27 =>
    bif !isTuple a27.1.1 then
      (some ((a27.1.1, (0, ())), a27.2))
    else
      (none))
def rs_wicketref04_Disk_Read : Rs := [(.tmp 4, .any), (.tmp 5, (.int .i64))]
def ps_wicketref04_Disk_Read : List Ty := [.ptr, (.int .i64)]
theorem e_wicketref04_Disk_Read (n : Nat) (u0 : Option Addr) (u1 : Int) (h : Heap) : f_wicketref04_Disk_Read n u0 u1 h = fB (sf_wicketref04_Disk_Read n) (it_wicketref04_Disk_Read n) n c2_wicketref04_Disk_Read rs_wicketref04_Disk_Read ps_wicketref04_Disk_Read (u0, (u1, ())) h := by kernel_rfl
noncomputable def s_wicketref04_Disk_Read (n : Nat) : Sf1 := mkSf ps_wicketref04_Disk_Read rs_wicketref04_Disk_Read fun a h => f_wicketref04_Disk_Read n a.1 a.2.1 h

/- (*wicket/wicketlaw04.pair).keeps -/
def c2_wicketlaw04_pair_keeps : C2 :=
  .seq (.reg [(⟨(some 4), .move (.tmp 0), none⟩, .ptr),
      (⟨(some 5), .move (.tmp 0), none⟩, .ptr),
      (⟨(some 6), .nilCheck (.tmp 5), none⟩, .ptr),
      (⟨(some 7), .fieldAddr 4 (.tmp 6), none⟩, .ptr),
      (⟨(some 8), .load false 1 (.tmp 7), none⟩, .any),
      (⟨(some 9), .move (.tmp 1), none⟩, .any),
      (⟨(some 10), .buildSlice 1 1 [(.slice none 0 0)] [(0, 1, (.tmp 9))], none⟩, .any),
      (⟨(some 11), .append 24 1 (.tmp 8) (.tmp 10), none⟩, .any),
      (⟨(some 12), .nilCheck (.tmp 4), none⟩, .ptr),
      (⟨(some 13), .fieldAddr 4 (.tmp 12), none⟩, .ptr),
      (⟨none, .store 1 (.tmp 13) (.tmp 11), none⟩, .any)]) <|
  .regd [(⟨0, [], false, ⟨(some 14), .move (.tmp 0), none⟩⟩, .ptr),
    (⟨1, [], false, ⟨(some 15), .move (.tmp 0), none⟩⟩, .ptr),
    (⟨2, [1], false, ⟨(some 16), .nilCheck (.tmp 15), none⟩⟩, .ptr),
    (⟨3, [2, 1], false, ⟨(some 17), .fieldAddr 5 (.tmp 16), none⟩⟩, .ptr),
    (⟨4, [3, 2, 1], false, ⟨(some 18), .load false 1 (.tmp 17), none⟩⟩, .any),
    (⟨5, [], false, ⟨(some 19), .move (.tmp 1), none⟩⟩, .any),
    (⟨6, [5], true, ⟨(some 20), .call k_wicketlaw04_own [(.tmp 19)], none⟩⟩, .any),
    (⟨7, [6, 5], false, ⟨(some 21), .buildSlice 1 1 [(.slice none 0 0)] [(0, 1, (.tmp 20))], none⟩⟩, .any),
    (⟨8, [4, 7, 6, 3, 2, 1, 5], true, ⟨(some 22), .append 24 1 (.tmp 18) (.tmp 21), none⟩⟩, .any),
    (⟨9, [0, 1, 2, 3, 4, 5, 6, 7, 8], false, ⟨(some 23), .nilCheck (.tmp 14), none⟩⟩, .ptr),
    (⟨10, [9, 0, 1, 2, 3, 4, 5, 6, 7, 8], false, ⟨(some 24), .fieldAddr 5 (.tmp 23), none⟩⟩, .ptr),
    (⟨11, [10, 8, 0, 1, 2, 3, 4, 5, 6, 7, 9], true, ⟨none, .store 1 (.tmp 24) (.tmp 22), none⟩⟩, .any)]
noncomputable def sf_wicketlaw04_pair_keeps (n : Nat) : Sf := sfOf [(k_wicketlaw04_own, s_wicketlaw04_own n)]
noncomputable def it_wicketlaw04_pair_keeps (n : Nat) : It := itOf []
def f_wicketlaw04_pair_keeps (n : Nat) (u0 : Option Addr) (u1 : Value) (h : Heap) : Option ((Unit) × Heap) :=
  (u0).bind fun q0 =>
  (ldT .any h (some (fa q0 4))).bind fun x1 =>
  (fillL [(.slice none 0 0)] [(0, 1, u1)]).bind fun cs2 =>
  bnd ((Heap.new h (.cells cs2 false 1))) fun h3 =>
  (appendK h3 24 1 x1 (.slice (some ⟨Heap.next h, 0, some 0⟩) 1 1)).bind fun p4 =>
  (u0).bind fun q5 =>
  (stB 1 p4.1 p4.2 (some (fa q5 4))).bind fun h6 =>
  (u0).bind fun q7 =>
  (ldT .any h6 (some (fa q7 5))).bind fun x8 =>
  (f_wicketlaw04_own n u1 (hid h6 [] ((Addr.block (fa q7 5)) :: []))).bind fun p9 =>
  bnd (Heap.putBack p9.2 h6 ([] ++ ((Addr.block (fa q7 5)) :: []))) fun h10 =>
  (fillL [(.slice none 0 0)] [(0, 1, p9.1.1)]).bind fun cs11 =>
  bnd ((Heap.new h10 (.cells cs11 false 1))) fun h12 =>
  (appendK h12 24 1 x8 (.slice (some ⟨Heap.next h10, 0, some 0⟩) 1 1)).bind fun p13 =>
  (u0).bind fun q14 =>
  (stB 1 p13.1 p13.2 (some (fa q14 5))).bind fun h15 =>
  some ((), h15)
def rs_wicketlaw04_pair_keeps : Rs := []
def ps_wicketlaw04_pair_keeps : List Ty := [.ptr, .any]
theorem e_wicketlaw04_pair_keeps (n : Nat) (u0 : Option Addr) (u1 : Value) (h : Heap) : f_wicketlaw04_pair_keeps n u0 u1 h = fB (sf_wicketlaw04_pair_keeps n) (it_wicketlaw04_pair_keeps n) n c2_wicketlaw04_pair_keeps rs_wicketlaw04_pair_keeps ps_wicketlaw04_pair_keeps (u0, (u1, ())) h := by kernel_rfl
noncomputable def s_wicketlaw04_pair_keeps (n : Nat) : Sf1 := mkSf ps_wicketlaw04_pair_keeps rs_wicketlaw04_pair_keeps fun a h => f_wicketlaw04_pair_keeps n a.1 a.2.1 h

/- (*wicket/wicketref04.Disk).Write -/
def c2_wicketref04_Disk_Write : C2 :=
  .seq (.reg [(⟨(some 6), .move (.const (.int .i64 0)), none⟩, (.int .i64))]) <|
  .seq (.seq (.cutn [(14, .bool)] <|
        .reg [(⟨(some 7), .move (.tmp 1), none⟩, (.int .i64)),
          (⟨(some 8), .bin .lss (.tmp 7) (.const (.int .i64 0)), none⟩, .bool),
          (⟨(some 9), .move (.tmp 8), none⟩, .bool),
          (⟨(some 10), .move (.tmp 1), some (9, false)⟩, (.int .i64)),
          (⟨(some 11), .move (.tmp 0), some (9, false)⟩, .ptr),
          (⟨(some 12), .call k_wicketref04_Disk_Len [(.tmp 11)], some (9, false)⟩, (.int .i64)),
          (⟨(some 13), .bin .geq (.tmp 10) (.tmp 12), some (9, false)⟩, .bool),
          (⟨(some 14), .pick (.tmp 9) (.const (.bool true)) (.tmp 13), none⟩, .bool)]) <|
    .cond (.tmp 14)
      (.seq (.reg [(⟨(some 6), .move (.const (.int .i64 40)), none⟩, (.int .i64))]) <|
      .ret)
      (.skip)) <|
  .seq (.seq (.reg [(⟨(some 15), .move (.tmp 2), none⟩, .any),
        (⟨(some 16), .lenS (.tmp 15), none⟩, (.int .i64)),
        (⟨(some 17), .bin .neq (.tmp 16) (.const (.int .i64 64)), none⟩, .bool)]) <|
    .cond (.tmp 17)
      (.seq (.reg [(⟨(some 6), .move (.const (.int .i64 2)), none⟩, (.int .i64))]) <|
      .ret)
      (.skip)) <|
  .seq (.regd [(⟨0, [], false, ⟨(some 18), .move (.tmp 0), none⟩⟩, .ptr),
      (⟨1, [], false, ⟨(some 19), .move (.tmp 0), none⟩⟩, .ptr),
      (⟨2, [1], false, ⟨(some 20), .nilCheck (.tmp 19), none⟩⟩, .ptr),
      (⟨3, [2, 1], false, ⟨(some 21), .fieldAddr 1 (.tmp 20), none⟩⟩, .ptr),
      (⟨4, [3, 2, 1], false, ⟨(some 22), .load false 1 (.tmp 21), none⟩⟩, .any),
      (⟨5, [], false, ⟨(some 23), .move (.tmp 1), none⟩⟩, (.int .i64)),
      (⟨6, [], false, ⟨(some 24), .buildSlice 0 1 [] [], none⟩⟩, .any),
      (⟨7, [], false, ⟨(some 25), .move (.tmp 2), none⟩⟩, .any),
      (⟨8, [6, 7], true, ⟨(some 26), .append 1 1 (.tmp 24) (.tmp 25), none⟩⟩, .any),
      (⟨9, [5, 8, 6, 7], false, ⟨(some 27), .build [(.int .i64 0), (.slice none 0 0)] [(0, 1, (.tmp 23)), (1, 1, (.tmp 26))], none⟩⟩, .any),
      (⟨10, [9, 5, 8, 6, 7], false, ⟨(some 28), .buildSlice 1 2 [(.int .i64 0), (.slice none 0 0)] [(0, 2, (.tmp 27))], none⟩⟩, .any),
      (⟨11, [4, 10, 8, 3, 2, 1, 9, 5, 6, 7], true, ⟨(some 29), .append 32 2 (.tmp 22) (.tmp 28), none⟩⟩, .any),
      (⟨12, [0, 1, 2, 3, 4, 5, 6, 7, 8, 9, 10, 11], false, ⟨(some 30), .nilCheck (.tmp 18), none⟩⟩, .ptr),
      (⟨13, [12, 0, 1, 2, 3, 4, 5, 6, 7, 8, 9, 10, 11], false, ⟨(some 31), .fieldAddr 1 (.tmp 30), none⟩⟩, .ptr),
      (⟨14, [13, 11, 0, 1, 2, 3, 4, 5, 6, 7, 8, 9, 10, 12], true, ⟨none, .store 1 (.tmp 31) (.tmp 29), none⟩⟩, .any)]) <|
  .seq (.reg [(⟨(some 6), .move (.const (.int .i64 0)), none⟩, (.int .i64))]) <|
  .ret
noncomputable def sf_wicketref04_Disk_Write (n : Nat) : Sf := sfOf [(k_wicketref04_Disk_Len, s_wicketref04_Disk_Len n)]
noncomputable def it_wicketref04_Disk_Write (n : Nat) : It := itOf []
def f_wicketref04_Disk_Write (n : Nat) (u0 : Option Addr) (u1 : Int) (u2 : Value) (h : Heap) : Option ((Int × Unit) × Heap) :=
  ((bif (decide (u1 < 0)) then
      (some ((true, ()), h))
    else
      ((f_wicketref04_Disk_Len n u0 h).bind fun p0 =>
      some (((decide (p0.1.1 ≤ u1)), ()), p0.2))) : Option ((Bool × Unit) × Heap)).bind fun a1 =>
  bif a1.1.1 then
    (some ((40, ()), a1.2))
  else
    ((lenB u2).bind fun n2 =>
    bif (!decide ((n2 : Int) = 64)) then
      (some ((2, ()), a1.2))
    else
      ((u0).bind fun q3 =>
      (ldT .any a1.2 (some (fa q3 1))).bind fun x4 =>
      (fillL [] []).bind fun cs5 =>
      bnd ((Heap.new a1.2 (.cells cs5 false 1))) fun h6 =>
      (appendK (hid h6 [] ((Addr.block (fa q3 1)) :: [])) 1 1 (.slice (some ⟨Heap.next a1.2, 0, some 0⟩) 0 0) u2).bind fun p7 =>
      bnd (Heap.putBack p7.2 h6 ([] ++ ((Addr.block (fa q3 1)) :: []))) fun h8 =>
      (fillL [(.int .i64 0), (.slice none 0 0)] [(0, 1, (.int .i64 u1)), (1, 1, p7.1)]).bind fun cs9 =>
      (fillL [(.int .i64 0), (.slice none 0 0)] [(0, 2, (.agg ⟨cs9⟩))]).bind fun cs10 =>
      bnd ((Heap.new h8 (.cells cs10 false 2))) fun h11 =>
      (appendK h11 32 2 x4 (.slice (some ⟨Heap.next h8, 0, some 0⟩) 1 1)).bind fun p12 =>
      (u0).bind fun q13 =>
      (stB 1 p12.1 p12.2 (some (fa q13 1))).bind fun h14 =>
      some ((0, ()), h14)))
def rs_wicketref04_Disk_Write : Rs := [(.tmp 6, (.int .i64))]
def ps_wicketref04_Disk_Write : List Ty := [.ptr, (.int .i64), .any]
theorem e_wicketref04_Disk_Write (n : Nat) (u0 : Option Addr) (u1 : Int) (u2 : Value) (h : Heap) : f_wicketref04_Disk_Write n u0 u1 u2 h = fB (sf_wicketref04_Disk_Write n) (it_wicketref04_Disk_Write n) n c2_wicketref04_Disk_Write rs_wicketref04_Disk_Write ps_wicketref04_Disk_Write (u0, (u1, (u2, ()))) h := by kernel_rfl
noncomputable def s_wicketref04_Disk_Write (n : Nat) : Sf1 := mkSf ps_wicketref04_Disk_Write rs_wicketref04_Disk_Write fun a h => f_wicketref04_Disk_Write n a.1 a.2.1 a.2.2.1 h

/- (*wicket/wicketref04.Disk).Flush -/
def c2_wicketref04_Disk_Flush : C2 :=
  .seq (.reg [(⟨(some 2), .move (.const (.int .i64 0)), none⟩, (.int .i64))]) <|
  .seq (.reg [(⟨(some 3), .move (.const (.slice none 0 0)), none⟩, .any)]) <|
  .seq (.cutn [(3, .any)] <|
      .seq (.reg [(⟨(some 4), .move (.const (.int .i64 0)), none⟩, (.int .i64))]) <|
      .block 0 <|
        .loop [(3, .any), (4, (.int .i64))] <|
          .seq (.seq (.reg [(⟨(some 5), .move (.tmp 4), none⟩, (.int .i64)),
                (⟨(some 6), .move (.tmp 0), none⟩, .ptr),
                (⟨(some 7), .nilCheck (.tmp 6), none⟩, .ptr),
                (⟨(some 8), .fieldAddr 1 (.tmp 7), none⟩, .ptr),
                (⟨(some 9), .load false 1 (.tmp 8), none⟩, .any),
                (⟨(some 10), .lenS (.tmp 9), none⟩, (.int .i64)),
                (⟨(some 11), .bin .lss (.tmp 5) (.tmp 10), none⟩, .bool)]) <|
            .cond (.tmp 11)
              (.skip)
              (.exit 0)) <|
          .seq (.block 1 <|
              .reg [(⟨(some 14), .move (.tmp 3), none⟩, .any),
                (⟨(some 15), .move (.tmp 4), none⟩, (.int .i64)),
                (⟨(some 16), .buildSlice 1 1 [(.int .i64 0)] [(0, 1, (.tmp 15))], none⟩, .any),
                (⟨(some 17), .append 8 1 (.tmp 14) (.tmp 16), none⟩, .any),
                (⟨(some 3), .move (.tmp 17), none⟩, .any)]) <|
          .reg [(⟨(some 12), .move (.tmp 4), none⟩, (.int .i64)),
            (⟨(some 13), .bin .add (.tmp 12) (.const (.int .i64 1)), none⟩, (.int .i64)),
            (⟨(some 4), .move (.tmp 13), none⟩, (.int .i64))]) <|
  .seq (.reg [(⟨(some 18), .move (.tmp 0), none⟩, .ptr),
      (⟨(some 19), .move (.tmp 3), none⟩, .any),
      (⟨(some 20), .call k_wicketref04_Disk_Crash [(.tmp 18), (.tmp 19)], none⟩, (.int .i64)),
      (⟨(some 2), .move (.tmp 20), none⟩, (.int .i64))]) <|
  .ret
def f_wicketref04_Disk_Flush_L9 (n : Nat) (u0 : Option Addr) (v0 : Value) (v1 : Int) (h2 : Heap) : Option (((Value × Int × Unit) × Heap) ⊕ ((Value × Unit) × Heap)) :=
  (u0).bind fun q3 =>
  (ldT .any h2 (some (fa q3 1))).bind fun x4 =>
  (lenB x4).bind fun n5 =>
  bif (decide (v1 < (n5 : Int))) then
    ((fillL [(.int .i64 0)] [(0, 1, (.int .i64 v1))]).bind fun cs6 =>
    bnd ((Heap.new h2 (.cells cs6 false 1))) fun h7 =>
    (appendK h7 8 1 v0 (.slice (some ⟨Heap.next h2, 0, some 0⟩) 1 1)).bind fun p8 =>
    some (.inl ((p8.1, ((IntKind.i64.wrap (v1 + 1)), ())), p8.2)))
  else
    (some (.inr ((v0, ()), h2)))
noncomputable def sf_wicketref04_Disk_Flush (n : Nat) : Sf := sfOf [(k_wicketref04_Disk_Crash, s_wicketref04_Disk_Crash n)]
noncomputable def it_wicketref04_Disk_Flush (n : Nat) : It := itOf []
def f_wicketref04_Disk_Flush (n : Nat) (u0 : Option Addr) (h : Heap) : Option ((Int × Unit) × Heap) :=
  ((loopT (fun a => f_wicketref04_Disk_Flush_L9 n u0 a.1.1 a.1.2.1 a.2) n (((.slice none 0 0), (0, ())), h)) : Option ((Value × Unit) × Heap)).bind fun a10 =>
  (f_wicketref04_Disk_Crash n u0 a10.1.1 a10.2).bind fun p11 =>
  some ((p11.1.1, ()), p11.2)
def rs_wicketref04_Disk_Flush : Rs := [(.tmp 2, (.int .i64))]
def ps_wicketref04_Disk_Flush : List Ty := [.ptr]
theorem e_wicketref04_Disk_Flush (n : Nat) (u0 : Option Addr) (h : Heap) : f_wicketref04_Disk_Flush n u0 h = fB (sf_wicketref04_Disk_Flush n) (it_wicketref04_Disk_Flush n) n c2_wicketref04_Disk_Flush rs_wicketref04_Disk_Flush ps_wicketref04_Disk_Flush (u0, ()) h := by kernel_rfl
noncomputable def s_wicketref04_Disk_Flush (n : Nat) : Sf1 := mkSf ps_wicketref04_Disk_Flush rs_wicketref04_Disk_Flush fun a h => f_wicketref04_Disk_Flush n a.1 h

/- slices.Backward[[]wicket/sector.waiting,wicket/sector.waiting] -/
def c2_slices_Backward_sector_waiting_sector_waiting : C2 :=
  .seq (.reg [(⟨(some 1), .box (.tmp 0), none⟩, .ptr),
      (⟨(some 2), .move (.const .nilFunc), none⟩, (.fn k_slices_Backward_sector_waiting_sector_waiting_1 1))]) <|
  .seq (.reg [(⟨(some 3), .makeFunc k_slices_Backward_sector_waiting_sector_waiting_1 [] [(.tmp 1)], none⟩, (.fn k_slices_Backward_sector_waiting_sector_waiting_1 1)),
      (⟨(some 2), .move (.tmp 3), none⟩, (.fn k_slices_Backward_sector_waiting_sector_waiting_1 1))]) <|
  .ret
noncomputable def sf_slices_Backward_sector_waiting_sector_waiting (n : Nat) : Sf := sfOf []
noncomputable def it_slices_Backward_sector_waiting_sector_waiting (n : Nat) : It := itOf []
def f_slices_Backward_sector_waiting_sector_waiting (n : Nat) (u0 : Value) (h : Heap) : Option ((Ptrs 1 × Unit) × Heap) :=
  bif (cellsOf u0).all isCell then
    (bnd ((Heap.new h (.cells (cellsOf u0) false 0))) fun h0 =>
    some ((((some (nwA h)), ()), ()), h0))
  else
    (none)
def rs_slices_Backward_sector_waiting_sector_waiting : Rs := [(.tmp 2, (.fn k_slices_Backward_sector_waiting_sector_waiting_1 1))]
def ps_slices_Backward_sector_waiting_sector_waiting : List Ty := [.any]
theorem e_slices_Backward_sector_waiting_sector_waiting (n : Nat) (u0 : Value) (h : Heap) : f_slices_Backward_sector_waiting_sector_waiting n u0 h = fB (sf_slices_Backward_sector_waiting_sector_waiting n) (it_slices_Backward_sector_waiting_sector_waiting n) n c2_slices_Backward_sector_waiting_sector_waiting rs_slices_Backward_sector_waiting_sector_waiting ps_slices_Backward_sector_waiting_sector_waiting (u0, ()) h := by kernel_rfl
noncomputable def s_slices_Backward_sector_waiting_sector_waiting (n : Nat) : Sf1 := mkSf ps_slices_Backward_sector_waiting_sector_waiting rs_slices_Backward_sector_waiting_sector_waiting fun a h => f_slices_Backward_sector_waiting_sector_waiting n a.1 h

/- (*wicket/sector.Disk).Read -/
def c2_sector_Disk_Read : C2 :=
  .seq (.reg [(⟨(some 3), .box (.tmp 1), none⟩, .ptr),
      (⟨(some 4), .alloc [(.slice none 0 0)], none⟩, .ptr),
      (⟨(some 5), .alloc [(.int .i64 0)], none⟩, .ptr)]) <|
  .seq (.seq (.reg [(⟨(some 9), .move (.tmp 0), none⟩, .ptr),
        (⟨(some 10), .load false 1 (.tmp 3), none⟩, (.int .i64)),
        (⟨(some 11), .call k_sector_Disk_asked [(.tmp 9), (.tmp 10)], none⟩, (.int .i64)),
        (⟨(some 6), .move (.tmp 11), none⟩, (.int .i64))]) <|
    .seq (.reg [(⟨(some 12), .move (.tmp 6), none⟩, (.int .i64)),
        (⟨(some 13), .bin .neq (.tmp 12) (.const (.int .i64 0)), none⟩, .bool)]) <|
    .cond (.tmp 13)
      (.seq (.reg [(⟨(some 14), .move (.tmp 6), none⟩, (.int .i64)),
          (⟨none, .store 1 (.tmp 4) (.const (.slice none 0 0)), none⟩, .any),
          (⟨none, .store 1 (.tmp 5) (.tmp 14), none⟩, .any)]) <|
      .ret)
      (.skip)) <|
  .seq (.seq (.reg [(⟨(some 15), .move (.tmp 0), none⟩, .ptr),
        (⟨(some 16), .nilCheck (.tmp 15), none⟩, .ptr),
        (⟨(some 17), .fieldAddr 1 (.tmp 16), none⟩, .ptr),
        (⟨(some 18), .load false 1 (.tmp 17), none⟩, .any),
        (⟨(some 19), .call k_slices_Backward_sector_waiting_sector_waiting [(.tmp 18)], none⟩, (.fn k_slices_Backward_sector_waiting_sector_waiting_1 1))]) <|
    .block 0 <|
      .range (.tmp 19) [20, 21] [.ret]
        (.reg [(⟨(some 8), .alloc [(.int .i64 0), (.int .u8 0), (.int .u8 0), (.int .u8 0), (.int .u8 0), (.int .u8 0), (.int .u8 0), (.int .u8 0), (.int .u8 0), (.int .u8 0), (.int .u8 0), (.int .u8 0), (.int .u8 0), (.int .u8 0), (.int .u8 0), (.int .u8 0), (.int .u8 0), (.int .u8 0), (.int .u8 0), (.int .u8 0), (.int .u8 0), (.int .u8 0), (.int .u8 0), (.int .u8 0), (.int .u8 0), (.int .u8 0), (.int .u8 0), (.int .u8 0), (.int .u8 0), (.int .u8 0), (.int .u8 0), (.int .u8 0), (.int .u8 0), (.int .u8 0), (.int .u8 0), (.int .u8 0), (.int .u8 0), (.int .u8 0), (.int .u8 0), (.int .u8 0), (.int .u8 0), (.int .u8 0), (.int .u8 0), (.int .u8 0), (.int .u8 0), (.int .u8 0), (.int .u8 0), (.int .u8 0), (.int .u8 0), (.int .u8 0), (.int .u8 0), (.int .u8 0), (.int .u8 0), (.int .u8 0), (.int .u8 0), (.int .u8 0), (.int .u8 0), (.int .u8 0), (.int .u8 0), (.int .u8 0), (.int .u8 0), (.int .u8 0), (.int .u8 0), (.int .u8 0), (.int .u8 0)], none⟩, .ptr),
          (⟨none, .store 65 (.tmp 8) (.tmp 21), none⟩, .any)])
        (.block 1 <|
          .seq (.reg [(⟨(some 22), .fieldAddr 0 (.tmp 8), none⟩, .ptr),
              (⟨(some 23), .load false 1 (.tmp 22), none⟩, (.int .i64)),
              (⟨(some 24), .load false 1 (.tmp 3), none⟩, (.int .i64)),
              (⟨(some 25), .bin .eql (.tmp 23) (.tmp 24), none⟩, .bool)]) <|
          .cond (.tmp 25)
            (.seq (.reg [(⟨(some 26), .fieldAddr 1 (.tmp 8), none⟩, .ptr),
                (⟨(some 27), .sliceArr 64 1 (.tmp 26) none none none, none⟩, .any),
                (⟨(some 28), .call k_slices_Clone_byte_byte [(.tmp 27)], none⟩, .any),
                (⟨none, .store 1 (.tmp 4) (.tmp 28), none⟩, .any),
                (⟨none, .store 1 (.tmp 5) (.const (.int .i64 0)), none⟩, .any)]) <|
            .ret)
            (.skip))) <|
  .seq (.regd [(⟨0, [], false, ⟨(some 29), .move (.tmp 0), none⟩⟩, .ptr),
      (⟨1, [0], false, ⟨(some 30), .nilCheck (.tmp 29), none⟩⟩, .ptr),
      (⟨2, [1, 0], false, ⟨(some 31), .fieldAddr 0 (.tmp 30), none⟩⟩, .ptr),
      (⟨3, [2, 1, 0], false, ⟨(some 32), .load false 1 (.tmp 31), none⟩⟩, .any),
      (⟨4, [], false, ⟨(some 33), .load false 1 (.tmp 3), none⟩⟩, (.int .i64)),
      (⟨5, [3, 4, 2, 1, 0], false, ⟨(some 34), .idxSlice 64 (.tmp 32) (.tmp 33), none⟩⟩, .ptr),
      (⟨6, [5, 3, 4, 2, 1, 0], false, ⟨(some 35), .sliceArr 64 1 (.tmp 34) none none none, none⟩⟩, .any),
      (⟨7, [6, 5, 3, 4, 2, 1, 0], true, ⟨(some 36), .call k_slices_Clone_byte_byte [(.tmp 35)], none⟩⟩, .any),
      (⟨8, [7, 0, 1, 2, 3, 4, 5, 6], true, ⟨none, .store 1 (.tmp 4) (.tmp 36), none⟩⟩, .any),
      (⟨9, [8, 0, 1, 2, 3, 4, 5, 6, 7], true, ⟨none, .store 1 (.tmp 5) (.const (.int .i64 0)), none⟩⟩, .any)]) <|
  .ret
def f_sector_Disk_Read_B23 (n : Nat) (h : Heap) (h0 : Heap) (h1 : Heap) (y12 : Int) (y13 : Value) (v14 : (Heap × Nat)) : Option (Bool × (Heap × Nat)) :=
  bif Nat.beq v14.2 0 then
    (bnd ((Heap.new v14.1 (.cells [(.int .i64 0), (.int .u8 0), (.int .u8 0), (.int .u8 0), (.int .u8 0), (.int .u8 0), (.int .u8 0), (.int .u8 0), (.int .u8 0), (.int .u8 0), (.int .u8 0), (.int .u8 0), (.int .u8 0), (.int .u8 0), (.int .u8 0), (.int .u8 0), (.int .u8 0), (.int .u8 0), (.int .u8 0), (.int .u8 0), (.int .u8 0), (.int .u8 0), (.int .u8 0), (.int .u8 0), (.int .u8 0), (.int .u8 0), (.int .u8 0), (.int .u8 0), (.int .u8 0), (.int .u8 0), (.int .u8 0), (.int .u8 0), (.int .u8 0), (.int .u8 0), (.int .u8 0), (.int .u8 0), (.int .u8 0), (.int .u8 0), (.int .u8 0), (.int .u8 0), (.int .u8 0), (.int .u8 0), (.int .u8 0), (.int .u8 0), (.int .u8 0), (.int .u8 0), (.int .u8 0), (.int .u8 0), (.int .u8 0), (.int .u8 0), (.int .u8 0), (.int .u8 0), (.int .u8 0), (.int .u8 0), (.int .u8 0), (.int .u8 0), (.int .u8 0), (.int .u8 0), (.int .u8 0), (.int .u8 0), (.int .u8 0), (.int .u8 0), (.int .u8 0), (.int .u8 0), (.int .u8 0)] false 0))) fun h15 =>
    (stB 65 y13 h15 (some (nwA v14.1))).bind fun h16 =>
    (ldT (.int .i64) h16 (some (fa (nwA v14.1) 0))).bind fun x17 =>
    (ldT (.int .i64) h16 (some (nwA h))).bind fun x18 =>
    bif (decide (x17 = x18)) then
      ((sliceArrK h16 64 1 none none (.pointer (some (fa (nwA v14.1) 1)))).bind fun p19 =>
      (f_slices_Clone_byte_byte n p19.1 h16).bind fun p20 =>
      (stB 1 p20.1.1 p20.2 (some (nwA h0))).bind fun h21 =>
      (stB 1 (.int .i64 0) h21 (some (nwA h1))).bind fun h22 =>
      some (false, (h22, 1)))
    else
      (some (true, (h16, 0))))
  else none
noncomputable def sf_sector_Disk_Read (n : Nat) : Sf := sfOf [(k_sector_Disk_asked, s_sector_Disk_asked n), (k_slices_Backward_sector_waiting_sector_waiting, s_slices_Backward_sector_waiting_sector_waiting n), (k_slices_Clone_byte_byte, s_slices_Clone_byte_byte n)]
noncomputable def it_sector_Disk_Read (n : Nat) : It := itOf [(k_slices_Backward_sector_waiting_sector_waiting_1, i_slices_Backward_sector_waiting_sector_waiting_1 n)]
def f_sector_Disk_Read (n : Nat) (u0 : Option Addr) (u1 : Int) (h : Heap) : Option ((Value × Int × Unit) × Heap) :=
  bnd ((Heap.new h (.cells [(.int .i64 u1)] false 0))) fun h0 =>
  bnd ((Heap.new h0 (.cells [(.slice none 0 0)] false 0))) fun h1 =>
  bnd ((Heap.new h1 (.cells [(.int .i64 0)] false 0))) fun h2 =>
  (ldT (.int .i64) h2 (some (nwA h))).bind fun x3 =>
  (f_sector_Disk_asked n u0 x3 h2).bind fun p4 =>
  bif (!decide (p4.1.1 = 0)) then
    ((stB 1 (.slice none 0 0) p4.2 (some (nwA h0))).bind fun h5 =>
    (stB 1 (.int .i64 p4.1.1) h5 (some (nwA h1))).bind fun h6 =>
    (ldT .any h6 (some (nwA h0))).bind fun x7 =>
    bif !isTuple x7 then
      ((ldT (.int .i64) h6 (some (nwA h1))).bind fun x8 =>
      some ((x7, (x8, ())), h6))
    else
      (none))
  else
    ((u0).bind fun q9 =>
    (ldT .any p4.2 (some (fa q9 1))).bind fun x10 =>
    (f_slices_Backward_sector_waiting_sector_waiting n x10 p4.2).bind fun p11 =>
    (f_slices_Backward_sector_waiting_sector_waiting_1 (V := (Heap × Nat)) (fun v => v.1) (fun v h => (h, v.2)) (fun a v => f_sector_Disk_Read_B23 n h h0 h1 a.1 a.2.1 v) n p11.1.1.1 ((Heap.hole (Heap.hole p11.2)), 0)).bind fun v24 =>
    bif Nat.beq v24.2 0 then
      ((u0).bind fun q25 =>
      (ldT .any v24.1 (some (fa q25 0))).bind fun x26 =>
      (ldT (.int .i64) v24.1 (some (nwA h))).bind fun x27 =>
      (ixB 64 x26 x27).bind fun q28 =>
      (sliceArrK v24.1 64 1 none none (.pointer (some q28))).bind fun p29 =>
      (f_slices_Clone_byte_byte n p29.1 v24.1).bind fun p30 =>
      (stB 1 p30.1.1 p30.2 (some (nwA h0))).bind fun h31 =>
      (stB 1 (.int .i64 0) h31 (some (nwA h1))).bind fun h32 =>
      (ldT .any h32 (some (nwA h0))).bind fun x33 =>
      bif !isTuple x33 then
        ((ldT (.int .i64) h32 (some (nwA h1))).bind fun x34 =>
        some ((x33, (x34, ())), h32))
      else
        (none))
    else
      (bif Nat.beq v24.2 1 then
        ((ldT .any v24.1 (some (nwA h0))).bind fun x35 =>
        bif !isTuple x35 then
          ((ldT (.int .i64) v24.1 (some (nwA h1))).bind fun x36 =>
          some ((x35, (x36, ())), v24.1))
        else
          (none))
      else
        (none)))
def rs_sector_Disk_Read : Rs := [(.cell false 1 4, .any), (.cell false 1 5, (.int .i64))]
def ps_sector_Disk_Read : List Ty := [.ptr, (.int .i64)]
theorem e_sector_Disk_Read (n : Nat) (u0 : Option Addr) (u1 : Int) (h : Heap) : f_sector_Disk_Read n u0 u1 h = fB (sf_sector_Disk_Read n) (it_sector_Disk_Read n) n c2_sector_Disk_Read rs_sector_Disk_Read ps_sector_Disk_Read (u0, (u1, ())) h := by kernel_rfl
noncomputable def s_sector_Disk_Read (n : Nat) : Sf1 := mkSf ps_sector_Disk_Read rs_sector_Disk_Read fun a h => f_sector_Disk_Read n a.1 a.2.1 h

/- (*wicket/wicketlaw04.pair).plays -/
def c2_wicketlaw04_pair_plays : C2 :=
  .seq (.reg [(⟨(some 3), .box (.tmp 1), none⟩, .ptr),
      (⟨(some 4), .move (.const (.bool false)), none⟩, .bool)]) <|
  .seq (.reg [(⟨(some 41), .fieldAddr 1 (.tmp 3), none⟩, .ptr),
      (⟨(some 42), .load false 1 (.tmp 41), none⟩, (.int .i64)),
      (⟨(some 43), .bin .rem (.tmp 42) (.const (.int .i64 2)), none⟩, (.int .i64)),
      (⟨(some 44), .bin .add (.tmp 43) (.const (.int .i64 2)), none⟩, (.int .i64)),
      (⟨(some 45), .bin .rem (.tmp 44) (.const (.int .i64 2)), none⟩, (.int .i64)),
      (⟨(some 5), .move (.tmp 45), none⟩, (.int .i64))]) <|
  .seq (.regd [(⟨0, [], false, ⟨(some 46), .move (.tmp 0), none⟩⟩, .ptr),
      (⟨1, [], false, ⟨(some 47), .move (.tmp 5), none⟩⟩, (.int .i64)),
      (⟨2, [0], false, ⟨(some 48), .nilCheck (.tmp 46), none⟩⟩, .ptr),
      (⟨3, [2, 0], false, ⟨(some 49), .fieldAddr 0 (.tmp 48), none⟩⟩, .ptr),
      (⟨4, [3, 1, 2, 0], false, ⟨(some 50), .idxArr 2 1 (.tmp 49) (.tmp 47), none⟩⟩, .ptr),
      (⟨5, [4, 3, 1, 2, 0], false, ⟨(some 51), .load false 1 (.tmp 50), none⟩⟩, .ptr),
      (⟨6, [], false, ⟨(some 52), .move (.tmp 0), none⟩⟩, .ptr),
      (⟨7, [], false, ⟨(some 53), .move (.tmp 5), none⟩⟩, (.int .i64)),
      (⟨8, [6], false, ⟨(some 54), .nilCheck (.tmp 52), none⟩⟩, .ptr),
      (⟨9, [8, 6], false, ⟨(some 55), .fieldAddr 2 (.tmp 54), none⟩⟩, .ptr),
      (⟨10, [9, 7, 8, 6], false, ⟨(some 56), .idxArr 2 1 (.tmp 55) (.tmp 53), none⟩⟩, .ptr),
      (⟨11, [10, 9, 7, 8, 6], false, ⟨(some 57), .load false 1 (.tmp 56), none⟩⟩, .ptr),
      (⟨12, [5, 0, 1, 2, 3, 4], false, ⟨(some 6), .move (.tmp 51), none⟩⟩, .ptr),
      (⟨13, [11, 12, 0, 1, 2, 3, 4, 5, 6, 7, 8, 9, 10], false, ⟨(some 7), .move (.tmp 57), none⟩⟩, .ptr)]) <|
  .seq (.seq (.reg [(⟨(some 58), .fieldAddr 0 (.tmp 3), none⟩, .ptr),
        (⟨(some 59), .load false 1 (.tmp 58), none⟩, (.int .i64))]) <|
    .block 0 <|
      .seq (.reg [(⟨(some 61), .bin .eql (.tmp 59) (.const (.int .i64 1)), none⟩, .bool),
          (⟨(some 60), .move (.tmp 61), none⟩, .bool)]) <|
      .cond (.tmp 60)
        (.seq (.reg [(⟨(some 63), .move (.tmp 6), none⟩, .ptr),
            (⟨(some 64), .fieldAddr 2 (.tmp 3), none⟩, .ptr),
            (⟨(some 65), .load false 1 (.tmp 64), none⟩, (.int .i64)),
            (⟨(some 66), .call k_sector_Disk_Read [(.tmp 63), (.tmp 65)], none⟩, .any),
            (⟨(some 62), .move (.tmp 66), none⟩, .any),
            (⟨(some 67), .extract (.tmp 62) 0, none⟩, .any),
            (⟨(some 68), .extract (.tmp 62) 1, none⟩, (.int .i64)),
            (⟨(some 8), .move (.tmp 67), none⟩, .any),
            (⟨(some 9), .move (.tmp 68), none⟩, (.int .i64))]) <|
        .seq (.reg [(⟨(some 70), .move (.tmp 6), none⟩, .ptr),
            (⟨(some 71), .fieldAddr 2 (.tmp 3), none⟩, .ptr),
            (⟨(some 72), .load false 1 (.tmp 71), none⟩, (.int .i64)),
            (⟨(some 73), .call k_sector_Disk_Read [(.tmp 70), (.tmp 72)], none⟩, .any),
            (⟨(some 69), .move (.tmp 73), none⟩, .any),
            (⟨(some 74), .extract (.tmp 69) 0, none⟩, .any),
            (⟨(some 75), .extract (.tmp 69) 1, none⟩, (.int .i64)),
            (⟨(some 10), .move (.tmp 74), none⟩, .any),
            (⟨(some 11), .move (.tmp 75), none⟩, (.int .i64))]) <|
        .seq (.reg [(⟨(some 77), .move (.tmp 7), none⟩, .ptr),
            (⟨(some 78), .fieldAddr 2 (.tmp 3), none⟩, .ptr),
            (⟨(some 79), .load false 1 (.tmp 78), none⟩, (.int .i64)),
            (⟨(some 80), .call k_wicketref04_Disk_Read [(.tmp 77), (.tmp 79)], none⟩, .any),
            (⟨(some 76), .move (.tmp 80), none⟩, .any),
            (⟨(some 81), .extract (.tmp 76) 0, none⟩, .any),
            (⟨(some 82), .extract (.tmp 76) 1, none⟩, (.int .i64)),
            (⟨(some 12), .move (.tmp 81), none⟩, .any),
            (⟨(some 13), .move (.tmp 82), none⟩, (.int .i64))]) <|
        .seq (.cutn [(14, .bool)] <|
            .reg [(⟨(some 83), .move (.tmp 9), none⟩, (.int .i64)),
              (⟨(some 84), .move (.tmp 13), none⟩, (.int .i64)),
              (⟨(some 85), .bin .eql (.tmp 83) (.tmp 84), none⟩, .bool),
              (⟨(some 86), .move (.tmp 85), none⟩, .bool),
              (⟨(some 87), .move (.tmp 11), some (86, true)⟩, (.int .i64)),
              (⟨(some 88), .move (.tmp 13), some (86, true)⟩, (.int .i64)),
              (⟨(some 89), .bin .eql (.tmp 87) (.tmp 88), some (86, true)⟩, .bool),
              (⟨(some 90), .pick (.tmp 86) (.tmp 89) (.const (.bool false)), none⟩, .bool),
              (⟨(some 91), .move (.tmp 90), none⟩, .bool),
              (⟨(some 92), .move (.tmp 8), some (91, true)⟩, .any),
              (⟨(some 93), .toStr (.tmp 92), some (91, true)⟩, .any),
              (⟨(some 94), .move (.tmp 12), some (91, true)⟩, .any),
              (⟨(some 95), .toStr (.tmp 94), some (91, true)⟩, .any),
              (⟨(some 96), .bins .eql (.tmp 93) (.tmp 95), some (91, true)⟩, .bool),
              (⟨(some 97), .pick (.tmp 91) (.tmp 96) (.const (.bool false)), none⟩, .bool),
              (⟨(some 98), .move (.tmp 97), none⟩, .bool),
              (⟨(some 99), .move (.tmp 10), some (98, true)⟩, .any),
              (⟨(some 100), .toStr (.tmp 99), some (98, true)⟩, .any),
              (⟨(some 101), .move (.tmp 12), some (98, true)⟩, .any),
              (⟨(some 102), .toStr (.tmp 101), some (98, true)⟩, .any),
              (⟨(some 103), .bins .eql (.tmp 100) (.tmp 102), some (98, true)⟩, .bool),
              (⟨(some 104), .pick (.tmp 98) (.tmp 103) (.const (.bool false)), none⟩, .bool),
              (⟨(some 14), .move (.tmp 104), none⟩, .bool)]) <|
        .seq (.cutn [] <|
            .seq (.reg [(⟨(some 105), .move (.tmp 10), none⟩, .any),
                (⟨(some 106), .lenS (.tmp 105), none⟩, (.int .i64)),
                (⟨(some 107), .move (.const (.int .i64 0)), none⟩, (.int .i64))]) <|
            .block 1 <|
              .loop [(107, (.int .i64))] <|
                .seq (.reg [(⟨(some 108), .bin .lss (.tmp 107) (.tmp 106), none⟩, .any)]) <|
                .seq (.cond (.tmp 108)
                    (.skip)
                    (.exit 1)) <|
                .seq (.block 2 <|
                    .seq (.reg [(⟨(some 109), .move (.tmp 107), none⟩, (.int .i64)),
                        (⟨(some 15), .move (.tmp 109), none⟩, (.int .i64))]) <|
                    .reg [(⟨(some 110), .move (.tmp 10), none⟩, .any),
                      (⟨(some 111), .move (.tmp 15), none⟩, (.int .i64)),
                      (⟨(some 112), .idxSlice 1 (.tmp 110) (.tmp 111), none⟩, .ptr),
                      (⟨none, .store 1 (.tmp 112) (.const (.int .u8 68)), none⟩, .any)]) <|
                .reg [(⟨(some 113), .bin .add (.tmp 107) (.const (.int .i64 1)), none⟩, (.int .i64)),
                  (⟨(some 107), .move (.tmp 113), none⟩, (.int .i64))]) <|
        .seq (.reg [(⟨(some 114), .move (.tmp 0), none⟩, .ptr),
            (⟨(some 115), .move (.tmp 8), none⟩, .any),
            (⟨(some 116), .call k_wicketlaw04_pair_keeps [(.tmp 114), (.tmp 115)], none⟩, .any)]) <|
        .seq (.reg [(⟨(some 117), .move (.tmp 14), none⟩, .bool),
            (⟨(some 4), .move (.tmp 117), none⟩, .bool)]) <|
        .ret)
        (.seq (.reg [(⟨(some 119), .bin .eql (.tmp 59) (.const (.int .i64 2)), none⟩, .bool),
            (⟨(some 118), .move (.tmp 119), none⟩, .bool)]) <|
        .cond (.tmp 118)
          (.seq (.reg [(⟨(some 120), .fieldAddr 3 (.tmp 3), none⟩, .ptr),
              (⟨(some 121), .load false 1 (.tmp 120), none⟩, .any),
              (⟨(some 122), .call k_wicketlaw04_own [(.tmp 121)], none⟩, .any),
              (⟨(some 16), .move (.tmp 122), none⟩, .any)]) <|
          .seq (.cutn [(16, .any)] <|
              .block 3 <|
                .loop [(16, .any)] <|
                  .seq (.seq (.cutn [(130, .bool)] <|
                        .reg [(⟨(some 123), .move (.tmp 16), none⟩, .any),
                          (⟨(some 124), .lenS (.tmp 123), none⟩, (.int .i64)),
                          (⟨(some 125), .bin .lss (.tmp 124) (.const (.int .i64 64)), none⟩, .bool),
                          (⟨(some 126), .move (.tmp 125), none⟩, .bool),
                          (⟨(some 127), .fieldAddr 1 (.tmp 3), some (126, true)⟩, .ptr),
                          (⟨(some 128), .load false 1 (.tmp 127), some (126, true)⟩, (.int .i64)),
                          (⟨(some 129), .bin .geq (.tmp 128) (.const (.int .i64 0)), some (126, true)⟩, .bool),
                          (⟨(some 130), .pick (.tmp 126) (.tmp 129) (.const (.bool false)), none⟩, .bool)]) <|
                    .cond (.tmp 130)
                      (.skip)
                      (.exit 3)) <|
                  .block 4 <|
                    .reg [(⟨(some 131), .move (.tmp 16), none⟩, .any),
                      (⟨(some 132), .buildSlice 1 1 [(.int .u8 0)] [(0, 1, (.const (.int .u8 0)))], none⟩, .any),
                      (⟨(some 133), .append 1 1 (.tmp 131) (.tmp 132), none⟩, .any),
                      (⟨(some 16), .move (.tmp 133), none⟩, .any)]) <|
          .seq (.reg [(⟨(some 134), .move (.tmp 16), none⟩, .any),
              (⟨(some 135), .call k_wicketlaw04_marked [(.tmp 134)], none⟩, .any),
              (⟨(some 17), .move (.tmp 135), none⟩, .any)]) <|
          .seq (.reg [(⟨(some 136), .move (.tmp 6), none⟩, .ptr),
              (⟨(some 137), .fieldAddr 2 (.tmp 3), none⟩, .ptr),
              (⟨(some 138), .load false 1 (.tmp 137), none⟩, (.int .i64)),
              (⟨(some 139), .move (.tmp 17), none⟩, .any),
              (⟨(some 140), .call k_sector_Disk_Write [(.tmp 136), (.tmp 138), (.tmp 139)], none⟩, (.int .i64)),
              (⟨(some 18), .move (.tmp 140), none⟩, (.int .i64))]) <|
          .seq (.cutn [(19, .bool)] <|
              .reg [(⟨(some 141), .move (.tmp 18), none⟩, (.int .i64)),
                (⟨(some 142), .move (.tmp 7), none⟩, .ptr),
                (⟨(some 143), .fieldAddr 2 (.tmp 3), none⟩, .ptr),
                (⟨(some 144), .load false 1 (.tmp 143), none⟩, (.int .i64)),
                (⟨(some 145), .move (.tmp 16), none⟩, .any),
                (⟨(some 146), .call k_wicketref04_Disk_Write [(.tmp 142), (.tmp 144), (.tmp 145)], none⟩, (.int .i64)),
                (⟨(some 147), .bin .eql (.tmp 141) (.tmp 146), none⟩, .bool),
                (⟨(some 148), .move (.tmp 147), none⟩, .bool),
                (⟨(some 149), .move (.tmp 17), some (148, true)⟩, .any),
                (⟨(some 150), .move (.tmp 16), some (148, true)⟩, .any),
                (⟨(some 151), .call k_wicketlaw04_held [(.tmp 149), (.tmp 150)], some (148, true)⟩, .bool),
                (⟨(some 152), .pick (.tmp 148) (.tmp 151) (.const (.bool false)), none⟩, .bool),
                (⟨(some 19), .move (.tmp 152), none⟩, .bool)]) <|
          .seq (.seq (.reg [(⟨(some 153), .move (.tmp 17), none⟩, .any),
                (⟨(some 154), .lenS (.tmp 153), none⟩, (.int .i64)),
                (⟨(some 155), .move (.const (.int .i64 0)), none⟩, (.int .i64))]) <|
            .block 5 <|
              .loop [(155, (.int .i64))] <|
                .seq (.reg [(⟨(some 156), .bin .lss (.tmp 155) (.tmp 154), none⟩, .any)]) <|
                .seq (.cond (.tmp 156)
                    (.skip)
                    (.exit 5)) <|
                .seq (.block 6 <|
                    .seq (.reg [(⟨(some 157), .move (.tmp 155), none⟩, (.int .i64)),
                        (⟨(some 20), .move (.tmp 157), none⟩, (.int .i64))]) <|
                    .reg [(⟨(some 158), .move (.tmp 17), none⟩, .any),
                      (⟨(some 159), .move (.tmp 20), none⟩, (.int .i64)),
                      (⟨(some 160), .idxSlice 1 (.tmp 158) (.tmp 159), none⟩, .ptr),
                      (⟨none, .store 1 (.tmp 160) (.const (.int .u8 69)), none⟩, .any)]) <|
                .reg [(⟨(some 161), .bin .add (.tmp 155) (.const (.int .i64 1)), none⟩, (.int .i64)),
                  (⟨(some 155), .move (.tmp 161), none⟩, (.int .i64))]) <|
          .seq (.reg [(⟨(some 162), .move (.tmp 19), none⟩, .bool),
              (⟨(some 4), .move (.tmp 162), none⟩, .bool)]) <|
          .ret)
          (.seq (.reg [(⟨(some 164), .bin .eql (.tmp 59) (.const (.int .i64 3)), none⟩, .bool),
              (⟨(some 163), .move (.tmp 164), none⟩, .bool)]) <|
          .cond (.tmp 163)
            (.seq (.reg [(⟨(some 166), .move (.tmp 6), none⟩, .ptr),
                (⟨(some 167), .call k_sector_Disk_Flush [(.tmp 166)], none⟩, .any),
                (⟨(some 165), .move (.tmp 167), none⟩, .any),
                (⟨(some 168), .extract (.tmp 165) 0, none⟩, (.int .i64)),
                (⟨(some 169), .extract (.tmp 165) 1, none⟩, (.int .i64)),
                (⟨(some 21), .move (.tmp 168), none⟩, (.int .i64)),
                (⟨(some 22), .move (.tmp 169), none⟩, (.int .i64))]) <|
            .seq (.reg [(⟨(some 170), .move (.tmp 22), none⟩, (.int .i64)),
                (⟨(some 171), .bin .eql (.tmp 170) (.const (.int .i64 0)), none⟩, .bool),
                (⟨(some 172), .move (.tmp 171), none⟩, .bool),
                (⟨(some 173), .move (.tmp 21), some (172, true)⟩, (.int .i64)),
                (⟨(some 174), .move (.tmp 7), some (172, true)⟩, .ptr),
                (⟨(some 175), .call k_wicketref04_Disk_Flush [(.tmp 174)], some (172, true)⟩, (.int .i64)),
                (⟨(some 176), .bin .eql (.tmp 173) (.tmp 175), some (172, true)⟩, .bool),
                (⟨(some 177), .pick (.tmp 172) (.tmp 176) (.const (.bool false)), none⟩, .bool),
                (⟨(some 4), .move (.tmp 177), none⟩, .bool)]) <|
            .ret)
            (.seq (.reg [(⟨(some 179), .bin .eql (.tmp 59) (.const (.int .i64 4)), none⟩, .bool),
                (⟨(some 178), .move (.tmp 179), none⟩, .bool)]) <|
            .cond (.tmp 178)
              (.seq (.regd [(⟨0, [], false, ⟨(some 180), .buildSlice 0 1 [] [], none⟩⟩, .any),
                  (⟨1, [], false, ⟨(some 181), .fieldAddr 4 (.tmp 3), none⟩⟩, .ptr),
                  (⟨2, [1], false, ⟨(some 182), .load false 1 (.tmp 181), none⟩⟩, .any),
                  (⟨4, [], false, ⟨(some 184), .buildSlice 2 1 [(.int .i64 0), (.int .i64 0)] [(0, 1, (.const (.int .i64 (-7)))), (1, 1, (.const (.int .i64 (-7))))], none⟩⟩, .any),
                  (⟨6, [], false, ⟨(some 186), .fieldAddr 4 (.tmp 3), none⟩⟩, .ptr),
                  (⟨7, [6], false, ⟨(some 187), .load false 1 (.tmp 186), none⟩⟩, .any),
                  (⟨8, [7, 6], false, ⟨(some 188), .lenS (.tmp 187), none⟩⟩, (.int .i64)),
                  (⟨3, [0, 2, 1], true, ⟨(some 183), .append 8 1 (.tmp 180) (.tmp 182), none⟩⟩, .any),
                  (⟨5, [3, 4, 0, 2, 1], true, ⟨(some 185), .append 8 1 (.tmp 183) (.tmp 184), none⟩⟩, .any),
                  (⟨9, [5, 8, 3, 4, 0, 2, 1, 7, 6], false, ⟨(some 189), .slice 1 (.tmp 185) none (some (.tmp 188)) none, none⟩⟩, .any),
                  (⟨10, [9, 5, 0, 1, 2, 3, 4, 6, 7, 8], false, ⟨(some 23), .move (.tmp 189), none⟩⟩, .any)]) <|
              .seq (.reg [(⟨(some 191), .move (.tmp 6), none⟩, .ptr),
                  (⟨(some 192), .move (.tmp 23), none⟩, .any),
                  (⟨(some 193), .call k_sector_Disk_Crash [(.tmp 191), (.tmp 192)], none⟩, .any),
                  (⟨(some 190), .move (.tmp 193), none⟩, .any),
                  (⟨(some 194), .extract (.tmp 190) 0, none⟩, (.int .i64)),
                  (⟨(some 195), .extract (.tmp 190) 1, none⟩, (.int .i64)),
                  (⟨(some 24), .move (.tmp 194), none⟩, (.int .i64)),
                  (⟨(some 25), .move (.tmp 195), none⟩, (.int .i64))]) <|
              .seq (.cutn [(26, .bool)] <|
                  .reg [(⟨(some 196), .move (.tmp 25), none⟩, (.int .i64)),
                    (⟨(some 197), .bin .eql (.tmp 196) (.const (.int .i64 0)), none⟩, .bool),
                    (⟨(some 198), .move (.tmp 197), none⟩, .bool),
                    (⟨(some 199), .move (.tmp 24), some (198, true)⟩, (.int .i64)),
                    (⟨(some 200), .move (.tmp 7), some (198, true)⟩, .ptr),
                    (⟨(some 201), .fieldAddr 4 (.tmp 3), some (198, true)⟩, .ptr),
                    (⟨(some 202), .load false 1 (.tmp 201), some (198, true)⟩, .any),
                    (⟨(some 203), .call k_wicketref04_Disk_Crash [(.tmp 200), (.tmp 202)], some (198, true)⟩, (.int .i64)),
                    (⟨(some 204), .bin .eql (.tmp 199) (.tmp 203), some (198, true)⟩, .bool),
                    (⟨(some 205), .pick (.tmp 198) (.tmp 204) (.const (.bool false)), none⟩, .bool),
                    (⟨(some 26), .move (.tmp 205), none⟩, .bool)]) <|
              .seq (.reg [(⟨(some 206), .move (.tmp 23), none⟩, .any),
                  (⟨(some 207), .move (.tmp 23), none⟩, .any),
                  (⟨(some 208), .lenS (.tmp 207), none⟩, (.int .i64)),
                  (⟨(some 209), .bin .add (.tmp 208) (.const (.int .i64 2)), none⟩, (.int .i64)),
                  (⟨(some 210), .slice 1 (.tmp 206) none (some (.tmp 209)) none, none⟩, .any),
                  (⟨(some 27), .move (.tmp 210), none⟩, .any)]) <|
              .seq (.cutn [(26, .bool)] <|
                  .seq (.reg [(⟨(some 211), .fieldAddr 4 (.tmp 3), none⟩, .ptr),
                      (⟨(some 212), .load false 1 (.tmp 211), none⟩, .any),
                      (⟨(some 213), .lenS (.tmp 212), none⟩, (.int .i64)),
                      (⟨(some 214), .move (.const (.int .i64 0)), none⟩, (.int .i64))]) <|
                  .block 7 <|
                    .loop [(26, .bool), (214, (.int .i64))] <|
                      .seq (.reg [(⟨(some 215), .bin .lss (.tmp 214) (.tmp 213), none⟩, .any)]) <|
                      .seq (.cond (.tmp 215)
                          (.skip)
                          (.exit 7)) <|
                      .seq (.cutn [(26, .bool)] <|
                          .block 8 <|
                            .seq (.reg [(⟨(some 216), .move (.tmp 214), none⟩, (.int .i64)),
                                (⟨(some 28), .move (.tmp 216), none⟩, (.int .i64))]) <|
                            .regd [(⟨0, [], false, ⟨(some 217), .move (.tmp 26), none⟩⟩, .bool),
                              (⟨1, [0], false, ⟨(some 218), .move (.tmp 217), none⟩⟩, .bool),
                              (⟨2, [1, 0], false, ⟨(some 219), .move (.tmp 27), some (218, true)⟩⟩, .any),
                              (⟨3, [1, 0], false, ⟨(some 220), .move (.tmp 28), some (218, true)⟩⟩, (.int .i64)),
                              (⟨4, [2, 3, 1, 0], false, ⟨(some 221), .idxSlice 1 (.tmp 219) (.tmp 220), some (218, true)⟩⟩, .ptr),
                              (⟨5, [4, 1, 2, 3, 0], false, ⟨(some 222), .load false 1 (.tmp 221), some (218, true)⟩⟩, (.int .i64)),
                              (⟨6, [1, 0], false, ⟨(some 223), .fieldAddr 4 (.tmp 3), some (218, true)⟩⟩, .ptr),
                              (⟨7, [6, 1, 0], false, ⟨(some 224), .load false 1 (.tmp 223), some (218, true)⟩⟩, .any),
                              (⟨8, [1, 0], false, ⟨(some 225), .move (.tmp 28), some (218, true)⟩⟩, (.int .i64)),
                              (⟨9, [7, 8, 1, 6, 0], false, ⟨(some 226), .idxSlice 1 (.tmp 224) (.tmp 225), some (218, true)⟩⟩, .ptr),
                              (⟨10, [9, 1, 7, 8, 6, 0], false, ⟨(some 227), .load false 1 (.tmp 226), some (218, true)⟩⟩, (.int .i64)),
                              (⟨11, [5, 10, 1, 4, 2, 3, 0, 9, 7, 8, 6], false, ⟨(some 228), .bin .eql (.tmp 222) (.tmp 227), some (218, true)⟩⟩, .bool),
                              (⟨12, [1, 11, 0, 5, 10, 4, 2, 3, 9, 7, 8, 6], false, ⟨(some 229), .pick (.tmp 218) (.tmp 228) (.const (.bool false)), none⟩⟩, .bool),
                              (⟨13, [12, 1, 0, 2, 3, 4, 5, 6, 7, 8, 9, 10, 11], true, ⟨(some 26), .move (.tmp 229), none⟩⟩, .bool)]) <|
                      .reg [(⟨(some 230), .bin .add (.tmp 214) (.const (.int .i64 1)), none⟩, (.int .i64)),
                        (⟨(some 214), .move (.tmp 230), none⟩, (.int .i64))]) <|
              .seq (.reg [(⟨(some 231), .move (.tmp 26), none⟩, .bool),
                  (⟨(some 232), .move (.tmp 231), none⟩, .bool),
                  (⟨(some 233), .move (.tmp 27), some (232, true)⟩, .any),
                  (⟨(some 234), .fieldAddr 4 (.tmp 3), some (232, true)⟩, .ptr),
                  (⟨(some 235), .load false 1 (.tmp 234), some (232, true)⟩, .any),
                  (⟨(some 236), .lenS (.tmp 235), some (232, true)⟩, (.int .i64)),
                  (⟨(some 237), .idxSlice 1 (.tmp 233) (.tmp 236), some (232, true)⟩, .ptr),
                  (⟨(some 238), .load false 1 (.tmp 237), some (232, true)⟩, (.int .i64)),
                  (⟨(some 239), .bin .eql (.tmp 238) (.const (.int .i64 (-7))), some (232, true)⟩, .bool),
                  (⟨(some 240), .pick (.tmp 232) (.tmp 239) (.const (.bool false)), none⟩, .bool),
                  (⟨(some 241), .move (.tmp 240), none⟩, .bool),
                  (⟨(some 242), .move (.tmp 27), some (241, true)⟩, .any),
                  (⟨(some 243), .fieldAddr 4 (.tmp 3), some (241, true)⟩, .ptr),
                  (⟨(some 244), .load false 1 (.tmp 243), some (241, true)⟩, .any),
                  (⟨(some 245), .lenS (.tmp 244), some (241, true)⟩, (.int .i64)),
                  (⟨(some 246), .bin .add (.tmp 245) (.const (.int .i64 1)), some (241, true)⟩, (.int .i64)),
                  (⟨(some 247), .idxSlice 1 (.tmp 242) (.tmp 246), some (241, true)⟩, .ptr),
                  (⟨(some 248), .load false 1 (.tmp 247), some (241, true)⟩, (.int .i64)),
                  (⟨(some 249), .bin .eql (.tmp 248) (.const (.int .i64 (-7))), some (241, true)⟩, .bool),
                  (⟨(some 250), .pick (.tmp 241) (.tmp 249) (.const (.bool false)), none⟩, .bool),
                  (⟨(some 4), .move (.tmp 250), none⟩, .bool)]) <|
              .ret)
              (.seq (.reg [(⟨(some 252), .bin .eql (.tmp 59) (.const (.int .i64 5)), none⟩, .bool),
                  (⟨(some 251), .move (.tmp 252), none⟩, .bool)]) <|
              .cond (.tmp 251)
                (.seq (.reg [(⟨(some 253), .move (.tmp 6), none⟩, .ptr),
                    (⟨(some 254), .call k_sector_Disk_Waiting [(.tmp 253)], none⟩, .any),
                    (⟨(some 255), .move (.tmp 6), none⟩, .ptr),
                    (⟨(some 256), .call k_sector_Disk_Waiting [(.tmp 255)], none⟩, .any),
                    (⟨(some 29), .move (.tmp 254), none⟩, .any),
                    (⟨(some 30), .move (.tmp 256), none⟩, .any)]) <|
                .seq (.regd [(⟨0, [], false, ⟨(some 257), .move (.tmp 29), none⟩⟩, .any),
                    (⟨1, [], false, ⟨(some 258), .move (.tmp 7), none⟩⟩, .ptr),
                    (⟨2, [1], false, ⟨(some 259), .nilCheck (.tmp 258), none⟩⟩, .ptr),
                    (⟨3, [2, 1], false, ⟨(some 260), .fieldAddr 1 (.tmp 259), none⟩⟩, .ptr),
                    (⟨4, [3, 2, 1], false, ⟨(some 261), .load false 1 (.tmp 260), none⟩⟩, .any),
                    (⟨5, [0, 4, 3, 2, 1], true, ⟨(some 262), .call k_wicketlaw04_sameWrites [(.tmp 257), (.tmp 261)], none⟩⟩, .bool),
                    (⟨6, [5, 0, 4, 3, 2, 1], false, ⟨(some 263), .move (.tmp 262), none⟩⟩, .bool),
                    (⟨7, [6, 5, 0, 4, 3, 2, 1], false, ⟨(some 264), .move (.tmp 30), some (263, true)⟩⟩, .any),
                    (⟨8, [6, 5, 0, 4, 3, 2, 1], false, ⟨(some 265), .move (.tmp 7), some (263, true)⟩⟩, .ptr),
                    (⟨9, [8, 6, 5, 0, 4, 3, 2, 1], false, ⟨(some 266), .nilCheck (.tmp 265), some (263, true)⟩⟩, .ptr),
                    (⟨10, [9, 6, 8, 5, 0, 4, 3, 2, 1], false, ⟨(some 267), .fieldAddr 1 (.tmp 266), some (263, true)⟩⟩, .ptr),
                    (⟨11, [10, 6, 9, 8, 5, 0, 4, 3, 2, 1], false, ⟨(some 268), .load false 1 (.tmp 267), some (263, true)⟩⟩, .any),
                    (⟨12, [7, 11, 6, 5, 0, 4, 3, 2, 1, 10, 9, 8], true, ⟨(some 269), .call k_wicketlaw04_sameWrites [(.tmp 264), (.tmp 268)], some (263, true)⟩⟩, .bool),
                    (⟨13, [6, 12, 5, 0, 4, 3, 2, 1, 7, 11, 10, 9, 8], false, ⟨(some 270), .pick (.tmp 263) (.tmp 269) (.const (.bool false)), none⟩⟩, .bool),
                    (⟨14, [13, 12, 6, 5, 0, 4, 3, 2, 1, 7, 11, 10, 9, 8], false, ⟨(some 271), .move (.tmp 270), none⟩⟩, .bool),
                    (⟨15, [14, 13, 12, 6, 5, 0, 4, 3, 2, 1, 7, 11, 10, 9, 8], false, ⟨(some 272), .move (.tmp 30), some (271, true)⟩⟩, .any),
                    (⟨16, [15, 14, 13, 12, 6, 5, 0, 4, 3, 2, 1, 7, 11, 10, 9, 8], true, ⟨(some 273), .call k_wicketlaw04_Apart [(.tmp 272)], some (271, true)⟩⟩, .bool),
                    (⟨17, [14, 16, 13, 12, 6, 5, 0, 4, 3, 2, 1, 7, 11, 10, 9, 8, 15], false, ⟨(some 274), .pick (.tmp 271) (.tmp 273) (.const (.bool false)), none⟩⟩, .bool),
                    (⟨18, [17, 16, 14, 13, 12, 6, 5, 0, 4, 3, 2, 1, 7, 11, 10, 9, 8, 15], false, ⟨(some 275), .move (.tmp 274), none⟩⟩, .bool),
                    (⟨19, [18, 17, 16, 14, 13, 12, 6, 5, 0, 4, 3, 2, 1, 7, 11, 10, 9, 8, 15], false, ⟨(some 276), .move (.tmp 29), some (275, true)⟩⟩, .any),
                    (⟨20, [18, 17, 16, 14, 13, 12, 6, 5, 0, 4, 3, 2, 1, 7, 11, 10, 9, 8, 15], false, ⟨(some 277), .move (.tmp 7), some (275, true)⟩⟩, .ptr),
                    (⟨21, [20, 18, 17, 16, 14, 13, 12, 6, 5, 0, 4, 3, 2, 1, 7, 11, 10, 9, 8, 15], false, ⟨(some 278), .nilCheck (.tmp 277), some (275, true)⟩⟩, .ptr),
                    (⟨22, [21, 18, 20, 17, 16, 14, 13, 12, 6, 5, 0, 4, 3, 2, 1, 7, 11, 10, 9, 8, 15], false, ⟨(some 279), .fieldAddr 1 (.tmp 278), some (275, true)⟩⟩, .ptr),
                    (⟨23, [22, 18, 21, 20, 17, 16, 14, 13, 12, 6, 5, 0, 4, 3, 2, 1, 7, 11, 10, 9, 8, 15], false, ⟨(some 280), .load false 1 (.tmp 279), some (275, true)⟩⟩, .any),
                    (⟨24, [19, 23, 18, 17, 16, 14, 13, 12, 6, 5, 0, 4, 3, 2, 1, 7, 11, 10, 9, 8, 15, 22, 21, 20], true, ⟨(some 281), .call k_wicketlaw04_sameWrites [(.tmp 276), (.tmp 280)], some (275, true)⟩⟩, .bool),
                    (⟨25, [18, 24, 17, 16, 14, 13, 12, 6, 5, 0, 4, 3, 2, 1, 7, 11, 10, 9, 8, 15, 19, 23, 22, 21, 20], false, ⟨(some 282), .pick (.tmp 275) (.tmp 281) (.const (.bool false)), none⟩⟩, .bool),
                    (⟨26, [25, 24, 18, 17, 16, 14, 13, 12, 6, 5, 0, 4, 3, 2, 1, 7, 11, 10, 9, 8, 15, 19, 23, 22, 21, 20], false, ⟨(some 283), .move (.tmp 282), none⟩⟩, .bool),
                    (⟨27, [26, 25, 24, 18, 17, 16, 14, 13, 12, 6, 5, 0, 4, 3, 2, 1, 7, 11, 10, 9, 8, 15, 19, 23, 22, 21, 20], false, ⟨(some 284), .move (.tmp 29), some (283, true)⟩⟩, .any),
                    (⟨28, [27, 26, 25, 24, 18, 17, 16, 14, 13, 12, 6, 5, 0, 4, 3, 2, 1, 7, 11, 10, 9, 8, 15, 19, 23, 22, 21, 20], true, ⟨(some 285), .call k_wicketlaw04_Apart [(.tmp 284)], some (283, true)⟩⟩, .bool),
                    (⟨29, [26, 28, 25, 24, 18, 17, 16, 14, 13, 12, 6, 5, 0, 4, 3, 2, 1, 7, 11, 10, 9, 8, 15, 19, 23, 22, 21, 20, 27], false, ⟨(some 286), .pick (.tmp 283) (.tmp 285) (.const (.bool false)), none⟩⟩, .bool),
                    (⟨30, [29, 28, 26, 25, 24, 18, 17, 16, 14, 13, 12, 6, 5, 0, 4, 3, 2, 1, 7, 11, 10, 9, 8, 15, 19, 23, 22, 21, 20, 27], false, ⟨(some 287), .move (.tmp 286), none⟩⟩, .bool),
                    (⟨31, [30, 29, 28, 26, 25, 24, 18, 17, 16, 14, 13, 12, 6, 5, 0, 4, 3, 2, 1, 7, 11, 10, 9, 8, 15, 19, 23, 22, 21, 20, 27], false, ⟨(some 288), .move (.tmp 6), some (287, true)⟩⟩, .ptr),
                    (⟨33, [30, 29, 28, 26, 25, 24, 18, 17, 16, 14, 13, 12, 6, 5, 0, 4, 3, 2, 1, 7, 11, 10, 9, 8, 15, 19, 23, 22, 21, 20, 27], false, ⟨(some 290), .move (.tmp 7), some (287, true)⟩⟩, .ptr),
                    (⟨34, [33, 30, 29, 28, 26, 25, 24, 18, 17, 16, 14, 13, 12, 6, 5, 0, 4, 3, 2, 1, 7, 11, 10, 9, 8, 15, 19, 23, 22, 21, 20, 27], false, ⟨(some 291), .nilCheck (.tmp 290), some (287, true)⟩⟩, .ptr),
                    (⟨35, [34, 30, 33, 29, 28, 26, 25, 24, 18, 17, 16, 14, 13, 12, 6, 5, 0, 4, 3, 2, 1, 7, 11, 10, 9, 8, 15, 19, 23, 22, 21, 20, 27], false, ⟨(some 292), .fieldAddr 1 (.tmp 291), some (287, true)⟩⟩, .ptr),
                    (⟨36, [35, 30, 34, 33, 29, 28, 26, 25, 24, 18, 17, 16, 14, 13, 12, 6, 5, 0, 4, 3, 2, 1, 7, 11, 10, 9, 8, 15, 19, 23, 22, 21, 20, 27], false, ⟨(some 293), .load false 1 (.tmp 292), some (287, true)⟩⟩, .any),
                    (⟨32, [31, 30, 29, 28, 26, 25, 24, 18, 17, 16, 14, 13, 12, 6, 5, 0, 4, 3, 2, 1, 7, 11, 10, 9, 8, 15, 19, 23, 22, 21, 20, 27], true, ⟨(some 289), .call k_sector_Disk_Waiting [(.tmp 288)], some (287, true)⟩⟩, .any),
                    (⟨37, [32, 36, 30, 31, 29, 28, 26, 25, 24, 18, 17, 16, 14, 13, 12, 6, 5, 0, 4, 3, 2, 1, 7, 11, 10, 9, 8, 15, 19, 23, 22, 21, 20, 27, 35, 34, 33], true, ⟨(some 294), .call k_wicketlaw04_sameWrites [(.tmp 289), (.tmp 293)], some (287, true)⟩⟩, .bool),
                    (⟨38, [30, 37, 29, 28, 26, 25, 24, 18, 17, 16, 14, 13, 12, 6, 5, 0, 4, 3, 2, 1, 7, 11, 10, 9, 8, 15, 19, 23, 22, 21, 20, 27, 32, 36, 31, 35, 34, 33], false, ⟨(some 295), .pick (.tmp 287) (.tmp 294) (.const (.bool false)), none⟩⟩, .bool),
                    (⟨39, [38, 37, 0, 1, 2, 3, 4, 5, 6, 7, 8, 9, 10, 11, 12, 13, 14, 15, 16, 17, 18, 19, 20, 21, 22, 23, 24, 25, 26, 27, 28, 29, 30, 31, 32, 33, 34, 35, 36], false, ⟨(some 4), .move (.tmp 295), none⟩⟩, .bool)]) <|
                .ret)
                (.seq (.reg [(⟨(some 297), .bin .eql (.tmp 59) (.const (.int .i64 6)), none⟩, .bool),
                    (⟨(some 296), .move (.tmp 297), none⟩, .bool)]) <|
                .cond (.tmp 296)
                  (.seq (.reg [(⟨(some 298), .move (.tmp 6), none⟩, .ptr),
                      (⟨(some 299), .call k_sector_Disk_Image [(.tmp 298)], none⟩, .any),
                      (⟨(some 300), .move (.tmp 6), none⟩, .ptr),
                      (⟨(some 301), .call k_sector_Disk_Image [(.tmp 300)], none⟩, .any),
                      (⟨(some 31), .move (.tmp 299), none⟩, .any),
                      (⟨(some 32), .move (.tmp 301), none⟩, .any)]) <|
                  .seq (.cutn [(33, .bool)] <|
                      .regd [(⟨0, [], false, ⟨(some 302), .move (.tmp 31), none⟩⟩, .any),
                        (⟨1, [0], false, ⟨(some 303), .toStr (.tmp 302), none⟩⟩, .any),
                        (⟨2, [], false, ⟨(some 304), .move (.tmp 7), none⟩⟩, .ptr),
                        (⟨3, [2], false, ⟨(some 305), .nilCheck (.tmp 304), none⟩⟩, .ptr),
                        (⟨4, [3, 2], false, ⟨(some 306), .fieldAddr 0 (.tmp 305), none⟩⟩, .ptr),
                        (⟨5, [4, 3, 2], false, ⟨(some 307), .load false 1 (.tmp 306), none⟩⟩, .any),
                        (⟨6, [5, 4, 3, 2], false, ⟨(some 308), .toStr (.tmp 307), none⟩⟩, .any),
                        (⟨7, [1, 6, 0, 5, 4, 3, 2], false, ⟨(some 309), .bins .eql (.tmp 303) (.tmp 308), none⟩⟩, .bool),
                        (⟨8, [7, 1, 6, 0, 5, 4, 3, 2], false, ⟨(some 310), .move (.tmp 309), none⟩⟩, .bool),
                        (⟨9, [8, 7, 1, 6, 0, 5, 4, 3, 2], false, ⟨(some 311), .move (.tmp 32), some (310, true)⟩⟩, .any),
                        (⟨10, [9, 8, 7, 1, 6, 0, 5, 4, 3, 2], false, ⟨(some 312), .toStr (.tmp 311), some (310, true)⟩⟩, .any),
                        (⟨11, [8, 7, 1, 6, 0, 5, 4, 3, 2], false, ⟨(some 313), .move (.tmp 7), some (310, true)⟩⟩, .ptr),
                        (⟨12, [11, 8, 7, 1, 6, 0, 5, 4, 3, 2], false, ⟨(some 314), .nilCheck (.tmp 313), some (310, true)⟩⟩, .ptr),
                        (⟨13, [12, 8, 11, 7, 1, 6, 0, 5, 4, 3, 2], false, ⟨(some 315), .fieldAddr 0 (.tmp 314), some (310, true)⟩⟩, .ptr),
                        (⟨14, [13, 8, 12, 11, 7, 1, 6, 0, 5, 4, 3, 2], false, ⟨(some 316), .load false 1 (.tmp 315), some (310, true)⟩⟩, .any),
                        (⟨15, [14, 8, 13, 12, 11, 7, 1, 6, 0, 5, 4, 3, 2], false, ⟨(some 317), .toStr (.tmp 316), some (310, true)⟩⟩, .any),
                        (⟨16, [10, 15, 8, 9, 7, 1, 6, 0, 5, 4, 3, 2, 14, 13, 12, 11], false, ⟨(some 318), .bins .eql (.tmp 312) (.tmp 317), some (310, true)⟩⟩, .bool),
                        (⟨17, [8, 16, 7, 1, 6, 0, 5, 4, 3, 2, 10, 15, 9, 14, 13, 12, 11], false, ⟨(some 319), .pick (.tmp 310) (.tmp 318) (.const (.bool false)), none⟩⟩, .bool),
                        (⟨18, [17, 8, 16, 7, 1, 6, 0, 5, 4, 3, 2, 10, 15, 9, 14, 13, 12, 11], false, ⟨(some 320), .move (.tmp 319), none⟩⟩, .bool),
                        (⟨19, [18, 17, 8, 16, 7, 1, 6, 0, 5, 4, 3, 2, 10, 15, 9, 14, 13, 12, 11], false, ⟨(some 321), .move (.tmp 6), some (320, true)⟩⟩, .ptr),
                        (⟨21, [18, 17, 8, 16, 7, 1, 6, 0, 5, 4, 3, 2, 10, 15, 9, 14, 13, 12, 11], false, ⟨(some 323), .move (.tmp 7), some (320, true)⟩⟩, .ptr),
                        (⟨20, [19, 18, 17, 8, 16, 7, 1, 6, 0, 5, 4, 3, 2, 10, 15, 9, 14, 13, 12, 11], true, ⟨(some 322), .call k_sector_Disk_Len [(.tmp 321)], some (320, true)⟩⟩, (.int .i64)),
                        (⟨22, [21, 20, 18, 17, 8, 16, 7, 1, 6, 0, 5, 4, 3, 2, 10, 15, 9, 14, 13, 12, 11, 19], true, ⟨(some 324), .call k_wicketref04_Disk_Len [(.tmp 323)], some (320, true)⟩⟩, (.int .i64)),
                        (⟨23, [20, 22, 18, 19, 17, 8, 16, 7, 1, 6, 0, 5, 4, 3, 2, 10, 15, 9, 14, 13, 12, 11, 21], false, ⟨(some 325), .bin .eql (.tmp 322) (.tmp 324), some (320, true)⟩⟩, .bool),
                        (⟨24, [18, 23, 17, 8, 16, 7, 1, 6, 0, 5, 4, 3, 2, 10, 15, 9, 14, 13, 12, 11, 20, 22, 19, 21], false, ⟨(some 326), .pick (.tmp 320) (.tmp 325) (.const (.bool false)), none⟩⟩, .bool),
                        (⟨25, [24, 22, 0, 1, 2, 3, 4, 5, 6, 7, 8, 9, 10, 11, 12, 13, 14, 15, 16, 17, 18, 19, 20, 21, 23], false, ⟨(some 33), .move (.tmp 326), none⟩⟩, .bool)]) <|
                  .seq (.cutn [] <|
                      .seq (.reg [(⟨(some 327), .move (.tmp 32), none⟩, .any),
                          (⟨(some 328), .lenS (.tmp 327), none⟩, (.int .i64)),
                          (⟨(some 329), .move (.const (.int .i64 0)), none⟩, (.int .i64))]) <|
                      .block 9 <|
                        .loop [(329, (.int .i64))] <|
                          .seq (.reg [(⟨(some 330), .bin .lss (.tmp 329) (.tmp 328), none⟩, .any)]) <|
                          .seq (.cond (.tmp 330)
                              (.skip)
                              (.exit 9)) <|
                          .seq (.block 10 <|
                              .seq (.reg [(⟨(some 331), .move (.tmp 329), none⟩, (.int .i64)),
                                  (⟨(some 34), .move (.tmp 331), none⟩, (.int .i64))]) <|
                              .reg [(⟨(some 332), .move (.tmp 32), none⟩, .any),
                                (⟨(some 333), .move (.tmp 34), none⟩, (.int .i64)),
                                (⟨(some 334), .idxSlice 1 (.tmp 332) (.tmp 333), none⟩, .ptr),
                                (⟨none, .store 1 (.tmp 334) (.const (.int .u8 70)), none⟩, .any)]) <|
                          .reg [(⟨(some 335), .bin .add (.tmp 329) (.const (.int .i64 1)), none⟩, (.int .i64)),
                            (⟨(some 329), .move (.tmp 335), none⟩, (.int .i64))]) <|
                  .seq (.reg [(⟨(some 336), .move (.tmp 0), none⟩, .ptr),
                      (⟨(some 337), .move (.tmp 31), none⟩, .any),
                      (⟨(some 338), .call k_wicketlaw04_pair_keeps [(.tmp 336), (.tmp 337)], none⟩, .any)]) <|
                  .seq (.reg [(⟨(some 339), .move (.tmp 33), none⟩, .bool),
                      (⟨(some 4), .move (.tmp 339), none⟩, .bool)]) <|
                  .ret)
                  (.seq (.reg [(⟨(some 341), .bin .eql (.tmp 59) (.const (.int .i64 7)), none⟩, .bool),
                      (⟨(some 340), .move (.tmp 341), none⟩, .bool)]) <|
                  .cond (.tmp 340)
                    (.seq (.regd [(⟨0, [], false, ⟨(some 342), .move (.tmp 0), none⟩⟩, .ptr),
                        (⟨1, [], false, ⟨(some 343), .move (.tmp 5), none⟩⟩, (.int .i64)),
                        (⟨2, [1], false, ⟨(some 344), .bin .sub (.const (.int .i64 1)) (.tmp 343), none⟩⟩, (.int .i64)),
                        (⟨3, [], false, ⟨(some 345), .move (.tmp 0), none⟩⟩, .ptr),
                        (⟨4, [], false, ⟨(some 346), .move (.tmp 5), none⟩⟩, (.int .i64)),
                        (⟨5, [4], false, ⟨(some 347), .bin .sub (.const (.int .i64 1)) (.tmp 346), none⟩⟩, (.int .i64)),
                        (⟨6, [], false, ⟨(some 348), .move (.tmp 6), none⟩⟩, .ptr),
                        (⟨8, [], false, ⟨(some 350), .move (.tmp 7), none⟩⟩, .ptr),
                        (⟨10, [0], false, ⟨(some 352), .nilCheck (.tmp 342), none⟩⟩, .ptr),
                        (⟨11, [10, 0], false, ⟨(some 353), .fieldAddr 0 (.tmp 352), none⟩⟩, .ptr),
                        (⟨14, [3], false, ⟨(some 355), .nilCheck (.tmp 345), none⟩⟩, .ptr),
                        (⟨15, [14, 3], false, ⟨(some 356), .fieldAddr 2 (.tmp 355), none⟩⟩, .ptr),
                        (⟨7, [6], true, ⟨(some 349), .call k_sector_Disk_Copy [(.tmp 348)], none⟩⟩, .ptr),
                        (⟨9, [8, 7, 6], true, ⟨(some 351), .call k_wicketref04_Disk_Copy [(.tmp 350)], none⟩⟩, .ptr),
                        (⟨12, [11, 2, 0, 1, 6, 7, 9, 10, 8], false, ⟨(some 354), .idxArr 2 1 (.tmp 353) (.tmp 344), none⟩⟩, .ptr),
                        (⟨13, [12, 7, 9, 0, 1, 2, 6, 11, 10, 8], true, ⟨none, .store 1 (.tmp 354) (.tmp 349), none⟩⟩, .any),
                        (⟨16, [15, 5, 0, 1, 2, 3, 4, 6, 7, 8, 9, 10, 11, 12, 13, 14], false, ⟨(some 357), .idxArr 2 1 (.tmp 356) (.tmp 347), none⟩⟩, .ptr),
                        (⟨17, [16, 9, 13, 0, 1, 2, 3, 4, 5, 6, 7, 8, 10, 11, 12, 15, 14], true, ⟨none, .store 1 (.tmp 357) (.tmp 351), none⟩⟩, .any)]) <|
                    .seq (.reg [(⟨(some 358), .move (.tmp 0), none⟩, .ptr),
                        (⟨(some 359), .move (.tmp 5), none⟩, (.int .i64)),
                        (⟨(some 360), .bin .sub (.const (.int .i64 1)) (.tmp 359), none⟩, (.int .i64)),
                        (⟨(some 361), .nilCheck (.tmp 358), none⟩, .ptr),
                        (⟨(some 362), .fieldAddr 0 (.tmp 361), none⟩, .ptr),
                        (⟨(some 363), .idxArr 2 1 (.tmp 362) (.tmp 360), none⟩, .ptr),
                        (⟨(some 364), .load false 1 (.tmp 363), none⟩, .ptr),
                        (⟨(some 365), .eqv true .ptr (.tmp 364) (.const (.pointer none)), none⟩, .bool),
                        (⟨(some 4), .move (.tmp 365), none⟩, .bool)]) <|
                    .ret)
                    (.seq (.reg [(⟨(some 367), .bin .eql (.tmp 59) (.const (.int .i64 8)), none⟩, .bool),
                        (⟨(some 366), .move (.tmp 367), none⟩, .bool)]) <|
                    .cond (.tmp 366)
                      (.seq (.reg [(⟨(some 368), .move (.tmp 7), none⟩, .ptr),
                          (⟨(some 369), .nilCheck (.tmp 368), none⟩, .ptr),
                          (⟨(some 370), .fieldAddr 0 (.tmp 369), none⟩, .ptr),
                          (⟨(some 371), .load false 1 (.tmp 370), none⟩, .any),
                          (⟨(some 372), .call k_wicketlaw04_marked [(.tmp 371)], none⟩, .any),
                          (⟨(some 35), .move (.tmp 372), none⟩, .any)]) <|
                      .seq (.reg [(⟨(some 374), .move (.tmp 35), none⟩, .any),
                          (⟨(some 375), .call k_sector_Load [(.tmp 374)], none⟩, .any),
                          (⟨(some 373), .move (.tmp 375), none⟩, .any),
                          (⟨(some 376), .extract (.tmp 373) 0, none⟩, .ptr),
                          (⟨(some 377), .extract (.tmp 373) 1, none⟩, (.int .i64)),
                          (⟨(some 36), .move (.tmp 376), none⟩, .ptr),
                          (⟨(some 37), .move (.tmp 377), none⟩, (.int .i64))]) <|
                      .seq (.reg [(⟨(some 379), .move (.tmp 7), none⟩, .ptr),
                          (⟨(some 380), .nilCheck (.tmp 379), none⟩, .ptr),
                          (⟨(some 381), .fieldAddr 0 (.tmp 380), none⟩, .ptr),
                          (⟨(some 382), .load false 1 (.tmp 381), none⟩, .any),
                          (⟨(some 383), .call k_wicketref04_Load [(.tmp 382)], none⟩, .any),
                          (⟨(some 378), .move (.tmp 383), none⟩, .any),
                          (⟨(some 384), .extract (.tmp 378) 0, none⟩, .ptr),
                          (⟨(some 385), .extract (.tmp 378) 1, none⟩, (.int .i64)),
                          (⟨(some 38), .move (.tmp 384), none⟩, .ptr),
                          (⟨(some 39), .move (.tmp 385), none⟩, (.int .i64))]) <|
                      .seq (.seq (.cutn [(405, .bool)] <|
                            .reg [(⟨(some 386), .move (.tmp 37), none⟩, (.int .i64)),
                              (⟨(some 387), .move (.tmp 39), none⟩, (.int .i64)),
                              (⟨(some 388), .bin .neq (.tmp 386) (.tmp 387), none⟩, .bool),
                              (⟨(some 389), .move (.tmp 388), none⟩, .bool),
                              (⟨(some 390), .move (.tmp 36), some (389, false)⟩, .ptr),
                              (⟨(some 391), .eqv false .ptr (.tmp 390) (.const (.pointer none)), some (389, false)⟩, .bool),
                              (⟨(some 392), .pick (.tmp 389) (.const (.bool true)) (.tmp 391), none⟩, .bool),
                              (⟨(some 393), .move (.tmp 392), none⟩, .bool),
                              (⟨(some 394), .move (.tmp 38), some (393, false)⟩, .ptr),
                              (⟨(some 395), .eqv false .ptr (.tmp 394) (.const (.pointer none)), some (393, false)⟩, .bool),
                              (⟨(some 396), .pick (.tmp 393) (.const (.bool true)) (.tmp 395), none⟩, .bool),
                              (⟨(some 397), .move (.tmp 396), none⟩, .bool),
                              (⟨(some 398), .move (.tmp 35), some (397, false)⟩, .any),
                              (⟨(some 399), .move (.tmp 7), some (397, false)⟩, .ptr),
                              (⟨(some 400), .nilCheck (.tmp 399), some (397, false)⟩, .ptr),
                              (⟨(some 401), .fieldAddr 0 (.tmp 400), some (397, false)⟩, .ptr),
                              (⟨(some 402), .load false 1 (.tmp 401), some (397, false)⟩, .any),
                              (⟨(some 403), .call k_wicketlaw04_held [(.tmp 398), (.tmp 402)], some (397, false)⟩, .bool),
                              (⟨(some 404), .un .not (.tmp 403), some (397, false)⟩, .bool),
                              (⟨(some 405), .pick (.tmp 397) (.const (.bool true)) (.tmp 404), none⟩, .bool)]) <|
                        .cond (.tmp 405)
                          (.seq (.reg [(⟨(some 4), .move (.const (.bool false)), none⟩, .bool)]) <|
                          .ret)
                          (.skip)) <|
                      .seq (.cutn [] <|
                          .seq (.reg [(⟨(some 406), .move (.tmp 35), none⟩, .any),
                              (⟨(some 407), .lenS (.tmp 406), none⟩, (.int .i64)),
                              (⟨(some 408), .move (.const (.int .i64 0)), none⟩, (.int .i64))]) <|
                          .block 11 <|
                            .loop [(408, (.int .i64))] <|
                              .seq (.reg [(⟨(some 409), .bin .lss (.tmp 408) (.tmp 407), none⟩, .any)]) <|
                              .seq (.cond (.tmp 409)
                                  (.skip)
                                  (.exit 11)) <|
                              .seq (.block 12 <|
                                  .seq (.reg [(⟨(some 410), .move (.tmp 408), none⟩, (.int .i64)),
                                      (⟨(some 40), .move (.tmp 410), none⟩, (.int .i64))]) <|
                                  .reg [(⟨(some 411), .move (.tmp 35), none⟩, .any),
                                    (⟨(some 412), .move (.tmp 40), none⟩, (.int .i64)),
                                    (⟨(some 413), .idxSlice 1 (.tmp 411) (.tmp 412), none⟩, .ptr),
                                    (⟨none, .store 1 (.tmp 413) (.const (.int .u8 71)), none⟩, .any)]) <|
                              .reg [(⟨(some 414), .bin .add (.tmp 408) (.const (.int .i64 1)), none⟩, (.int .i64)),
                                (⟨(some 408), .move (.tmp 414), none⟩, (.int .i64))]) <|
                      .regd [(⟨0, [], false, ⟨(some 415), .move (.tmp 0), none⟩⟩, .ptr),
                        (⟨1, [], false, ⟨(some 416), .move (.tmp 5), none⟩⟩, (.int .i64)),
                        (⟨2, [1], false, ⟨(some 417), .bin .sub (.const (.int .i64 1)) (.tmp 416), none⟩⟩, (.int .i64)),
                        (⟨3, [], false, ⟨(some 418), .move (.tmp 0), none⟩⟩, .ptr),
                        (⟨4, [], false, ⟨(some 419), .move (.tmp 5), none⟩⟩, (.int .i64)),
                        (⟨5, [4], false, ⟨(some 420), .bin .sub (.const (.int .i64 1)) (.tmp 419), none⟩⟩, (.int .i64)),
                        (⟨6, [], false, ⟨(some 421), .move (.tmp 36), none⟩⟩, .ptr),
                        (⟨7, [], false, ⟨(some 422), .move (.tmp 38), none⟩⟩, .ptr),
                        (⟨8, [0], false, ⟨(some 423), .nilCheck (.tmp 415), none⟩⟩, .ptr),
                        (⟨9, [8, 0], false, ⟨(some 424), .fieldAddr 0 (.tmp 423), none⟩⟩, .ptr),
                        (⟨10, [9, 2, 0, 1, 6, 8], false, ⟨(some 425), .idxArr 2 1 (.tmp 424) (.tmp 417), none⟩⟩, .ptr),
                        (⟨12, [3], false, ⟨(some 426), .nilCheck (.tmp 418), none⟩⟩, .ptr),
                        (⟨13, [12, 3], false, ⟨(some 427), .fieldAddr 2 (.tmp 426), none⟩⟩, .ptr),
                        (⟨11, [10, 6, 0, 1, 2, 9, 8], true, ⟨none, .store 1 (.tmp 425) (.tmp 421), none⟩⟩, .any),
                        (⟨14, [13, 5, 0, 1, 2, 3, 4, 6, 7, 8, 9, 10, 11, 12], false, ⟨(some 428), .idxArr 2 1 (.tmp 427) (.tmp 420), none⟩⟩, .ptr),
                        (⟨15, [14, 7, 11, 0, 1, 2, 3, 4, 5, 6, 8, 9, 10, 13, 12], true, ⟨none, .store 1 (.tmp 428) (.tmp 422), none⟩⟩, .any)])
                      (.skip))))))))) <|
  .seq (.reg [(⟨(some 4), .move (.const (.bool true)), none⟩, .bool)]) <|
  .ret
def f_wicketlaw04_pair_plays_L27 (n : Nat) (p12 : ((Value × Int × Unit) × Heap)) (n22 : Nat) (v23 : Int) (h24 : Heap) : Option (((Int × Unit) × Heap) ⊕ ((Unit) × Heap)) :=
  bif (decide (v23 < (n22 : Int))) then
    ((ixB 1 p12.1.1 v23).bind fun q25 =>
    (stB 1 (.int .u8 68) h24 (some q25)).bind fun h26 =>
    some (.inl (((IntKind.i64.wrap (v23 + 1)), ()), h26)))
  else
    (some (.inr ((), h24)))
def f_wicketlaw04_pair_plays_L40 (n : Nat) (h : Heap) (v32 : Value) (h33 : Heap) : Option (((Value × Unit) × Heap) ⊕ ((Value × Unit) × Heap)) :=
  (((lenB v32).bind fun n34 =>
    bif (decide ((n34 : Int) < 64)) then
      ((ldT (.int .i64) h33 (some (fa (nwA h) 1))).bind fun x35 =>
      some (((decide (0 ≤ x35)), ()), h33))
    else
      (some ((false, ()), h33))) : Option ((Bool × Unit) × Heap)).bind fun a36 =>
  bif a36.1.1 then
    ((fillL [(.int .u8 0)] [(0, 1, (.int .u8 0))]).bind fun cs37 =>
    bnd ((Heap.new a36.2 (.cells cs37 false 1))) fun h38 =>
    (appendK h38 1 1 v32 (.slice (some ⟨Heap.next a36.2, 0, some 0⟩) 1 1)).bind fun p39 =>
    some (.inl ((p39.1, ()), p39.2)))
  else
    (some (.inr ((v32, ()), a36.2)))
def f_wicketlaw04_pair_plays_L54 (n : Nat) (p42 : ((Value × Unit) × Heap)) (a48 : ((Bool × Unit) × Heap)) (n49 : Nat) (v50 : Int) (h51 : Heap) : Option (((Int × Unit) × Heap) ⊕ ((Bool × Unit) × Heap)) :=
  bif (decide (v50 < (n49 : Int))) then
    ((ixB 1 p42.1.1 v50).bind fun q52 =>
    (stB 1 (.int .u8 69) h51 (some q52)).bind fun h53 =>
    some (.inl (((IntKind.i64.wrap (v50 + 1)), ()), h53)))
  else
    (some (.inr ((a48.1.1, ()), h51)))
def f_wicketlaw04_pair_plays_L86 (n : Nat) (h : Heap) (p74 : (Value × Heap)) (n76 : Nat) (v77 : Bool) (v78 : Int) (h79 : Heap) : Option (((Bool × Int × Unit) × Heap) ⊕ ((Bool × Unit) × Heap)) :=
  bif (decide (v78 < (n76 : Int))) then
    (((bif v77 then
        ((ixB 1 p74.1 v78).bind fun q80 =>
        (ldT (.int .i64) h79 (some q80)).bind fun x81 =>
        (ldT .any h79 (some (fa (nwA h) 4))).bind fun x82 =>
        (ixB 1 x82 v78).bind fun q83 =>
        (ldT (.int .i64) h79 (some q83)).bind fun x84 =>
        some (((decide (x81 = x84)), ()), h79))
      else
        (some ((false, ()), h79))) : Option ((Bool × Unit) × Heap)).bind fun a85 =>
    some (.inl ((a85.1.1, ((IntKind.i64.wrap (v78 + 1)), ())), a85.2)))
  else
    (some (.inr ((v77, ()), h79)))
def f_wicketlaw04_pair_plays_L134 (n : Nat) (p115 : ((Value × Unit) × Heap)) (n129 : Nat) (v130 : Int) (h131 : Heap) : Option (((Int × Unit) × Heap) ⊕ ((Unit) × Heap)) :=
  bif (decide (v130 < (n129 : Int))) then
    ((ixB 1 p115.1.1 v130).bind fun q132 =>
    (stB 1 (.int .u8 70) h131 (some q132)).bind fun h133 =>
    some (.inl (((IntKind.i64.wrap (v130 + 1)), ()), h133)))
  else
    (some (.inr ((), h131)))
def f_wicketlaw04_pair_plays_L164 (n : Nat) (p150 : ((Value × Unit) × Heap)) (n159 : Nat) (v160 : Int) (h161 : Heap) : Option (((Int × Unit) × Heap) ⊕ ((Unit) × Heap)) :=
  bif (decide (v160 < (n159 : Int))) then
    ((ixB 1 p150.1.1 v160).bind fun q162 =>
    (stB 1 (.int .u8 71) h161 (some q162)).bind fun h163 =>
    some (.inl (((IntKind.i64.wrap (v160 + 1)), ()), h163)))
  else
    (some (.inr ((), h161)))
noncomputable def sf_wicketlaw04_pair_plays (n : Nat) : Sf := sfOf [(k_sector_Disk_Read, s_sector_Disk_Read n), (k_wicketref04_Disk_Read, s_wicketref04_Disk_Read n), (k_wicketlaw04_pair_keeps, s_wicketlaw04_pair_keeps n), (k_wicketlaw04_own, s_wicketlaw04_own n), (k_wicketlaw04_marked, s_wicketlaw04_marked n), (k_sector_Disk_Write, s_sector_Disk_Write n), (k_wicketref04_Disk_Write, s_wicketref04_Disk_Write n), (k_wicketlaw04_held, s_wicketlaw04_held n), (k_sector_Disk_Flush, s_sector_Disk_Flush n), (k_wicketref04_Disk_Flush, s_wicketref04_Disk_Flush n), (k_sector_Disk_Crash, s_sector_Disk_Crash n), (k_wicketref04_Disk_Crash, s_wicketref04_Disk_Crash n), (k_sector_Disk_Waiting, s_sector_Disk_Waiting n), (k_wicketlaw04_sameWrites, s_wicketlaw04_sameWrites n), (k_wicketlaw04_Apart, s_wicketlaw04_Apart n), (k_sector_Disk_Image, s_sector_Disk_Image n), (k_sector_Disk_Len, s_sector_Disk_Len n), (k_wicketref04_Disk_Len, s_wicketref04_Disk_Len n), (k_sector_Disk_Copy, s_sector_Disk_Copy n), (k_wicketref04_Disk_Copy, s_wicketref04_Disk_Copy n), (k_sector_Load, s_sector_Load n), (k_wicketref04_Load, s_wicketref04_Load n)]
noncomputable def it_wicketlaw04_pair_plays (n : Nat) : It := itOf []
def f_wicketlaw04_pair_plays (n : Nat) (u0 : Option Addr) (u1 : Value) (h : Heap) : Option ((Bool × Unit) × Heap) :=
  bif (cellsOf u1).all isCell then
    (bnd ((Heap.new h (.cells (cellsOf u1) false 0))) fun h0 =>
    (ldT (.int .i64) h0 (some (fa (nwA h) 1))).bind fun x1 =>
    (u0).bind fun q2 =>
    (ixA 2 1 (some (fa q2 0)) (Int.tmod (IntKind.i64.wrap ((Int.tmod x1 2) + 2)) 2)).bind fun q3 =>
    (ldT .ptr h0 (some q3)).bind fun x4 =>
    (u0).bind fun q5 =>
    (ixA 2 1 (some (fa q5 2)) (Int.tmod (IntKind.i64.wrap ((Int.tmod x1 2) + 2)) 2)).bind fun q6 =>
    (ldT .ptr h0 (some q6)).bind fun x7 =>
    (ldT (.int .i64) h0 (some (fa (nwA h) 0))).bind fun x8 =>
    bif (decide (x8 = 1)) then
      ((ldT (.int .i64) h0 (some (fa (nwA h) 2))).bind fun x9 =>
      (f_sector_Disk_Read n x4 x9 h0).bind fun p10 =>
      (ldT (.int .i64) p10.2 (some (fa (nwA h) 2))).bind fun x11 =>
      (f_sector_Disk_Read n x4 x11 p10.2).bind fun p12 =>
      (ldT (.int .i64) p12.2 (some (fa (nwA h) 2))).bind fun x13 =>
      (f_wicketref04_Disk_Read n x7 x13 p12.2).bind fun p14 =>
      ((bif (decide (p10.1.2.1 = p14.1.2.1)) then
          (bif (decide (p12.1.2.1 = p14.1.2.1)) then
            ((toStrK p14.2 p10.1.1).bind fun p15 =>
            (toStrK p14.2 p14.1.1).bind fun p16 =>
            (binsT .bool p14.2 .eql p15.1 p16.1).bind fun x17 =>
            bif x17 then
              ((toStrK p14.2 p12.1.1).bind fun p18 =>
              (toStrK p14.2 p14.1.1).bind fun p19 =>
              (binsT .bool p14.2 .eql p18.1 p19.1).bind fun x20 =>
              some ((x20, ()), p14.2))
            else
              (some ((false, ()), p14.2)))
          else
            (some ((false, ()), p14.2)))
        else
          (some ((false, ()), p14.2))) : Option ((Bool × Unit) × Heap)).bind fun a21 =>
      (((lenB p12.1.1).bind fun n22 =>
        loopT (fun a => f_wicketlaw04_pair_plays_L27 n p12 n22 a.1.1 a.2) n ((0, ()), a21.2)) : Option ((Unit) × Heap)).bind fun a28 =>
      (f_wicketlaw04_pair_keeps n u0 p10.1.1 a28.2).bind fun p29 =>
      some ((a21.1.1, ()), p29.2))
    else
      (bif (decide (x8 = 2)) then
        ((ldT .any h0 (some (fa (nwA h) 3))).bind fun x30 =>
        (f_wicketlaw04_own n x30 h0).bind fun p31 =>
        ((loopT (fun a => f_wicketlaw04_pair_plays_L40 n h a.1.1 a.2) n ((p31.1.1, ()), p31.2)) : Option ((Value × Unit) × Heap)).bind fun a41 =>
        (f_wicketlaw04_marked n a41.1.1 a41.2).bind fun p42 =>
        (ldT (.int .i64) p42.2 (some (fa (nwA h) 2))).bind fun x43 =>
        (f_sector_Disk_Write n x4 x43 p42.1.1 p42.2).bind fun p44 =>
        (((ldT (.int .i64) p44.2 (some (fa (nwA h) 2))).bind fun x45 =>
          (f_wicketref04_Disk_Write n x7 x45 a41.1.1 p44.2).bind fun p46 =>
          bif (decide (p44.1.1 = p46.1.1)) then
            ((f_wicketlaw04_held n p42.1.1 a41.1.1 p46.2).bind fun p47 =>
            some ((p47.1.1, ()), p47.2))
          else
            (some ((false, ()), p46.2))) : Option ((Bool × Unit) × Heap)).bind fun a48 =>
        (lenB p42.1.1).bind fun n49 =>
        loopT (fun a => f_wicketlaw04_pair_plays_L54 n p42 a48 n49 a.1.1 a.2) n ((0, ()), a48.2))
      else
        (bif (decide (x8 = 3)) then
          ((f_sector_Disk_Flush n x4 h0).bind fun p55 =>
          bif (decide (p55.1.2.1 = 0)) then
            ((f_wicketref04_Disk_Flush n x7 p55.2).bind fun p56 =>
            some (((decide (p55.1.1 = p56.1.1)), ()), p56.2))
          else
            (some ((false, ()), p55.2)))
        else
          (bif (decide (x8 = 4)) then
            ((fillL [] []).bind fun cs57 =>
            bnd ((Heap.new h0 (.cells cs57 false 1))) fun h58 =>
            (ldT .any (Heap.dropAll h58 ((Heap.next h0) :: [])) (some (fa (nwA h) 4))).bind fun x59 =>
            (fillL [(.int .i64 0), (.int .i64 0)] [(0, 1, (.int .i64 (-7))), (1, 1, (.int .i64 (-7)))]).bind fun cs60 =>
            bnd ((Heap.new h58 (.cells cs60 false 1))) fun h61 =>
            (ldT .any (Heap.dropAll h61 ((Heap.next h58) :: ((Heap.next h0) :: []))) (some (fa (nwA h) 4))).bind fun x62 =>
            (lenB x62).bind fun n63 =>
            (appendK (hid h61 ((Heap.next h58) :: []) ((Addr.block (fa (nwA h) 4)) :: [])) 8 1 (.slice (some ⟨Heap.next h0, 0, some 0⟩) 0 0) x59).bind fun p64 =>
            bnd (Heap.putBack p64.2 h61 (((Heap.next h58) :: []) ++ ((Addr.block (fa (nwA h) 4)) :: []))) fun h65 =>
            (appendK (hid h65 [] ((Addr.block (fa (nwA h) 4)) :: [])) 8 1 p64.1 (.slice (some ⟨Heap.next h58, 0, some 0⟩) 2 2)).bind fun p66 =>
            bnd (Heap.putBack p66.2 h65 ([] ++ ((Addr.block (fa (nwA h) 4)) :: []))) fun h67 =>
            (sliceK h67 1 none (some (.int .i64 (n63 : Int))) none p66.1).bind fun p68 =>
            (f_sector_Disk_Crash n x4 p68.1 h67).bind fun p69 =>
            ((bif (decide (p69.1.2.1 = 0)) then
                ((ldT .any p69.2 (some (fa (nwA h) 4))).bind fun x70 =>
                (f_wicketref04_Disk_Crash n x7 x70 p69.2).bind fun p71 =>
                some (((decide (p69.1.1 = p71.1.1)), ()), p71.2))
              else
                (some ((false, ()), p69.2))) : Option ((Bool × Unit) × Heap)).bind fun a72 =>
            (lenB p68.1).bind fun n73 =>
            (sliceK a72.2 1 none (some (.int .i64 (IntKind.i64.wrap ((n73 : Int) + 2)))) none p68.1).bind fun p74 =>
            (((ldT .any a72.2 (some (fa (nwA h) 4))).bind fun x75 =>
              (lenB x75).bind fun n76 =>
              loopT (fun a => f_wicketlaw04_pair_plays_L86 n h p74 n76 a.1.1 a.1.2.1 a.2) n ((a72.1.1, (0, ())), a72.2)) : Option ((Bool × Unit) × Heap)).bind fun a87 =>
            bif a87.1.1 then
              ((ldT .any a87.2 (some (fa (nwA h) 4))).bind fun x88 =>
              (lenB x88).bind fun n89 =>
              (ixB 1 p74.1 (n89 : Int)).bind fun q90 =>
              (ldT (.int .i64) a87.2 (some q90)).bind fun x91 =>
              bif (decide (x91 = (-7))) then
                ((ldT .any a87.2 (some (fa (nwA h) 4))).bind fun x92 =>
                (lenB x92).bind fun n93 =>
                (ixB 1 p74.1 (IntKind.i64.wrap ((n93 : Int) + 1))).bind fun q94 =>
                (ldT (.int .i64) a87.2 (some q94)).bind fun x95 =>
                some (((decide (x95 = (-7))), ()), a87.2))
              else
                (some ((false, ()), a87.2)))
            else
              (some ((false, ()), a87.2)))
          else
            (bif (decide (x8 = 5)) then
              ((f_sector_Disk_Waiting n x4 h0).bind fun p96 =>
              (f_sector_Disk_Waiting n x4 p96.2).bind fun p97 =>
              (x7).bind fun q98 =>
              (ldT .any p97.2 (some (fa q98 1))).bind fun x99 =>
              (f_wicketlaw04_sameWrites n p96.1.1 x99 p97.2).bind fun p100 =>
              bif p100.1.1 then
                ((x7).bind fun q101 =>
                (ldT .any p100.2 (some (fa q101 1))).bind fun x102 =>
                (f_wicketlaw04_sameWrites n p97.1.1 x102 p100.2).bind fun p103 =>
                bif p103.1.1 then
                  ((f_wicketlaw04_Apart n p97.1.1 p103.2).bind fun p104 =>
                  bif p104.1.1 then
                    ((x7).bind fun q105 =>
                    (ldT .any p104.2 (some (fa q105 1))).bind fun x106 =>
                    (f_wicketlaw04_sameWrites n p96.1.1 x106 p104.2).bind fun p107 =>
                    bif p107.1.1 then
                      ((f_wicketlaw04_Apart n p96.1.1 p107.2).bind fun p108 =>
                      bif p108.1.1 then
                        ((x7).bind fun q109 =>
                        (ldT .any p108.2 (some (fa q109 1))).bind fun x110 =>
                        (f_sector_Disk_Waiting n x4 (hid p108.2 [] ((Addr.block (fa q109 1)) :: []))).bind fun p111 =>
                        bnd (Heap.putBack p111.2 p108.2 ([] ++ ((Addr.block (fa q109 1)) :: []))) fun h112 =>
                        (f_wicketlaw04_sameWrites n p111.1.1 x110 h112).bind fun p113 =>
                        some ((p113.1.1, ()), p113.2))
                      else
                        (some ((false, ()), p108.2)))
                    else
                      (some ((false, ()), p107.2)))
                  else
                    (some ((false, ()), p104.2)))
                else
                  (some ((false, ()), p103.2)))
              else
                (some ((false, ()), p100.2)))
            else
              (bif (decide (x8 = 6)) then
                ((f_sector_Disk_Image n x4 h0).bind fun p114 =>
                (f_sector_Disk_Image n x4 p114.2).bind fun p115 =>
                (((toStrK p115.2 p114.1.1).bind fun p116 =>
                  (x7).bind fun q117 =>
                  (ldT .any p115.2 (some (fa q117 0))).bind fun x118 =>
                  (toStrK p115.2 x118).bind fun p119 =>
                  (binsT .bool p115.2 .eql p116.1 p119.1).bind fun x120 =>
                  bif x120 then
                    ((toStrK p115.2 p115.1.1).bind fun p121 =>
                    (x7).bind fun q122 =>
                    (ldT .any p115.2 (some (fa q122 0))).bind fun x123 =>
                    (toStrK p115.2 x123).bind fun p124 =>
                    (binsT .bool p115.2 .eql p121.1 p124.1).bind fun x125 =>
                    bif x125 then
                      ((f_sector_Disk_Len n x4 p115.2).bind fun p126 =>
                      (f_wicketref04_Disk_Len n x7 p126.2).bind fun p127 =>
                      some (((decide (p126.1.1 = p127.1.1)), ()), p127.2))
                    else
                      (some ((false, ()), p115.2)))
                  else
                    (some ((false, ()), p115.2))) : Option ((Bool × Unit) × Heap)).bind fun a128 =>
                (((lenB p115.1.1).bind fun n129 =>
                  loopT (fun a => f_wicketlaw04_pair_plays_L134 n p115 n129 a.1.1 a.2) n ((0, ()), a128.2)) : Option ((Unit) × Heap)).bind fun a135 =>
                (f_wicketlaw04_pair_keeps n u0 p114.1.1 a135.2).bind fun p136 =>
                some ((a128.1.1, ()), p136.2))
              else
                (bif (decide (x8 = 7)) then
                  ((u0).bind fun q137 =>
                  (u0).bind fun q138 =>
                  (f_sector_Disk_Copy n x4 h0).bind fun p139 =>
                  (f_wicketref04_Disk_Copy n x7 p139.2).bind fun p140 =>
                  (ixA 2 1 (some (fa q137 0)) (IntKind.i64.wrap (1 - (Int.tmod (IntKind.i64.wrap ((Int.tmod x1 2) + 2)) 2)))).bind fun q141 =>
                  (stB 1 (.pointer p139.1.1) p140.2 (some q141)).bind fun h142 =>
                  (ixA 2 1 (some (fa q138 2)) (IntKind.i64.wrap (1 - (Int.tmod (IntKind.i64.wrap ((Int.tmod x1 2) + 2)) 2)))).bind fun q143 =>
                  (stB 1 (.pointer p140.1.1) h142 (some q143)).bind fun h144 =>
                  (u0).bind fun q145 =>
                  (ixA 2 1 (some (fa q145 0)) (IntKind.i64.wrap (1 - (Int.tmod (IntKind.i64.wrap ((Int.tmod x1 2) + 2)) 2)))).bind fun q146 =>
                  (ldT .ptr h144 (some q146)).bind fun x147 =>
                  some (((!Option.isNone x147), ()), h144))
                else
                  (bif (decide (x8 = 8)) then
                    ((x7).bind fun q148 =>
                    (ldT .any h0 (some (fa q148 0))).bind fun x149 =>
                    (f_wicketlaw04_marked n x149 h0).bind fun p150 =>
                    (f_sector_Load n p150.1.1 p150.2).bind fun p151 =>
                    (x7).bind fun q152 =>
                    (ldT .any p151.2 (some (fa q152 0))).bind fun x153 =>
                    (f_wicketref04_Load n x153 p151.2).bind fun p154 =>
                    ((bif (!decide (p151.1.2.1 = p154.1.2.1)) then
                        (some ((true, ()), p154.2))
                      else
                        (bif (Option.isNone p151.1.1) then
                          (some ((true, ()), p154.2))
                        else
                          (bif (Option.isNone p154.1.1) then
                            (some ((true, ()), p154.2))
                          else
                            ((x7).bind fun q155 =>
                            (ldT .any p154.2 (some (fa q155 0))).bind fun x156 =>
                            (f_wicketlaw04_held n p150.1.1 x156 p154.2).bind fun p157 =>
                            some (((!p157.1.1), ()), p157.2))))) : Option ((Bool × Unit) × Heap)).bind fun a158 =>
                    bif a158.1.1 then
                      (some ((false, ()), a158.2))
                    else
                      ((((lenB p150.1.1).bind fun n159 =>
                        loopT (fun a => f_wicketlaw04_pair_plays_L164 n p150 n159 a.1.1 a.2) n ((0, ()), a158.2)) : Option ((Unit) × Heap)).bind fun a165 =>
                      (u0).bind fun q166 =>
                      (ixA 2 1 (some (fa q166 0)) (IntKind.i64.wrap (1 - (Int.tmod (IntKind.i64.wrap ((Int.tmod x1 2) + 2)) 2)))).bind fun q167 =>
                      (u0).bind fun q168 =>
                      (stB 1 (.pointer p151.1.1) a165.2 (some q167)).bind fun h169 =>
                      (ixA 2 1 (some (fa q168 2)) (IntKind.i64.wrap (1 - (Int.tmod (IntKind.i64.wrap ((Int.tmod x1 2) + 2)) 2)))).bind fun q170 =>
                      (stB 1 (.pointer p154.1.1) h169 (some q170)).bind fun h171 =>
                      some ((true, ()), h171)))
                  else
                    (some ((true, ()), h0))))))))))
  else
    (none)
def rs_wicketlaw04_pair_plays : Rs := [(.tmp 4, .bool)]
def ps_wicketlaw04_pair_plays : List Ty := [.ptr, .any]
theorem e_wicketlaw04_pair_plays (n : Nat) (u0 : Option Addr) (u1 : Value) (h : Heap) : f_wicketlaw04_pair_plays n u0 u1 h = fB (sf_wicketlaw04_pair_plays n) (it_wicketlaw04_pair_plays n) n c2_wicketlaw04_pair_plays rs_wicketlaw04_pair_plays ps_wicketlaw04_pair_plays (u0, (u1, ())) h := by kernel_rfl
noncomputable def s_wicketlaw04_pair_plays (n : Nat) : Sf1 := mkSf ps_wicketlaw04_pair_plays rs_wicketlaw04_pair_plays fun a h => f_wicketlaw04_pair_plays n a.1 a.2.1 h

/- wicket/wicketlaw04.SectorPlays -/
def c2_wicketlaw04_SectorPlays : C2 :=
  .seq (.reg [(⟨(some 4), .move (.const (.bool false)), none⟩, .bool)]) <|
  .seq (.seq (.reg [(⟨(some 13), .call k_wicketlaw04_awake [], none⟩, .bool),
        (⟨(some 14), .un .not (.tmp 13), none⟩, .bool)]) <|
    .cond (.tmp 14)
      (.seq (.reg [(⟨(some 4), .move (.const (.bool false)), none⟩, .bool)]) <|
      .ret)
      (.skip)) <|
  .seq (.cutn [(0, (.int .i64))] <|
      .seq (.reg [(⟨(some 15), .move (.tmp 0), none⟩, (.int .i64)),
          (⟨(some 16), .bin .gtr (.tmp 15) (.const (.int .i64 64)), none⟩, .bool)]) <|
      .cond (.tmp 16)
        (.reg [(⟨(some 17), .move (.tmp 0), none⟩, (.int .i64)),
          (⟨(some 18), .bin .rem (.tmp 17) (.const (.int .i64 64)), none⟩, (.int .i64)),
          (⟨(some 19), .bin .add (.tmp 18) (.const (.int .i64 1)), none⟩, (.int .i64)),
          (⟨(some 0), .move (.tmp 19), none⟩, (.int .i64))])
        (.skip)) <|
  .seq (.reg [(⟨(some 21), .move (.tmp 0), none⟩, (.int .i64)),
      (⟨(some 22), .call k_sector_New [(.tmp 21)], none⟩, .any),
      (⟨(some 20), .move (.tmp 22), none⟩, .any),
      (⟨(some 23), .extract (.tmp 20) 0, none⟩, .ptr),
      (⟨(some 24), .extract (.tmp 20) 1, none⟩, (.int .i64)),
      (⟨(some 5), .move (.tmp 23), none⟩, .ptr),
      (⟨(some 6), .move (.tmp 24), none⟩, (.int .i64))]) <|
  .seq (.reg [(⟨(some 26), .move (.tmp 0), none⟩, (.int .i64)),
      (⟨(some 27), .call k_wicketref04_New [(.tmp 26)], none⟩, .any),
      (⟨(some 25), .move (.tmp 27), none⟩, .any),
      (⟨(some 28), .extract (.tmp 25) 0, none⟩, .ptr),
      (⟨(some 29), .extract (.tmp 25) 1, none⟩, (.int .i64)),
      (⟨(some 7), .move (.tmp 28), none⟩, .ptr),
      (⟨(some 8), .move (.tmp 29), none⟩, (.int .i64))]) <|
  .seq (.seq (.cutn [(39, .bool)] <|
        .reg [(⟨(some 30), .move (.tmp 6), none⟩, (.int .i64)),
          (⟨(some 31), .move (.tmp 8), none⟩, (.int .i64)),
          (⟨(some 32), .bin .neq (.tmp 30) (.tmp 31), none⟩, .bool),
          (⟨(some 33), .move (.tmp 32), none⟩, .bool),
          (⟨(some 34), .move (.tmp 5), some (33, false)⟩, .ptr),
          (⟨(some 35), .eqv false .ptr (.tmp 34) (.const (.pointer none)), some (33, false)⟩, .bool),
          (⟨(some 36), .move (.tmp 7), some (33, false)⟩, .ptr),
          (⟨(some 37), .eqv false .ptr (.tmp 36) (.const (.pointer none)), some (33, false)⟩, .bool),
          (⟨(some 38), .eqv true .bool (.tmp 35) (.tmp 37), some (33, false)⟩, .bool),
          (⟨(some 39), .pick (.tmp 33) (.const (.bool true)) (.tmp 38), none⟩, .bool)]) <|
    .cond (.tmp 39)
      (.seq (.reg [(⟨(some 4), .move (.const (.bool false)), none⟩, .bool)]) <|
      .ret)
      (.skip)) <|
  .seq (.seq (.reg [(⟨(some 40), .move (.tmp 7), none⟩, .ptr),
        (⟨(some 41), .eqv false .ptr (.tmp 40) (.const (.pointer none)), none⟩, .bool)]) <|
    .cond (.tmp 41)
      (.seq (.reg [(⟨(some 4), .move (.const (.bool true)), none⟩, .bool)]) <|
      .ret)
      (.skip)) <|
  .seq (.reg [(⟨(some 42), .move (.tmp 5), none⟩, .ptr),
      (⟨(some 43), .move (.tmp 5), none⟩, .ptr),
      (⟨(some 44), .call k_sector_Disk_Copy [(.tmp 43)], none⟩, .ptr),
      (⟨(some 45), .build [(.pointer none), (.pointer none)] [(0, 1, (.tmp 42)), (1, 1, (.tmp 44))], none⟩, .any),
      (⟨(some 46), .move (.tmp 7), none⟩, .ptr),
      (⟨(some 47), .move (.tmp 7), none⟩, .ptr),
      (⟨(some 48), .call k_wicketref04_Disk_Copy [(.tmp 47)], none⟩, .ptr),
      (⟨(some 49), .build [(.pointer none), (.pointer none)] [(0, 1, (.tmp 46)), (1, 1, (.tmp 48))], none⟩, .any),
      (⟨(some 50), .build [(.pointer none), (.pointer none), (.pointer none), (.pointer none), (.slice none 0 0), (.slice none 0 0)] [(0, 2, (.tmp 45)), (2, 2, (.tmp 49))], none⟩, .any),
      (⟨(some 51), .box (.tmp 50), none⟩, .ptr),
      (⟨(some 9), .move (.tmp 51), none⟩, .ptr)]) <|
  .seq (.seq (.reg [(⟨(some 52), .move (.tmp 9), none⟩, .ptr),
        (⟨(some 53), .nilCheck (.tmp 52), none⟩, .ptr),
        (⟨(some 54), .fieldAddr 0 (.tmp 53), none⟩, .ptr),
        (⟨(some 55), .idxArr 2 1 (.tmp 54) (.const (.int .i64 1)), none⟩, .ptr),
        (⟨(some 56), .load false 1 (.tmp 55), none⟩, .ptr),
        (⟨(some 57), .eqv false .ptr (.tmp 56) (.const (.pointer none)), none⟩, .bool)]) <|
    .cond (.tmp 57)
      (.seq (.reg [(⟨(some 4), .move (.const (.bool false)), none⟩, .bool)]) <|
      .ret)
      (.skip)) <|
  .seq (.cut [] <|
      .seq (.reg [(⟨(some 10), .move (.const (.int .i64 0)), none⟩, (.int .i64))]) <|
      .block 0 <|
        .loop [(10, (.int .i64))] <|
          .seq (.seq (.cutn [(65, .bool)] <|
                .reg [(⟨(some 58), .move (.tmp 10), none⟩, (.int .i64)),
                  (⟨(some 59), .move (.tmp 1), none⟩, .any),
                  (⟨(some 60), .lenS (.tmp 59), none⟩, (.int .i64)),
                  (⟨(some 61), .bin .lss (.tmp 58) (.tmp 60), none⟩, .bool),
                  (⟨(some 62), .move (.tmp 61), none⟩, .bool),
                  (⟨(some 63), .move (.tmp 10), some (62, true)⟩, (.int .i64)),
                  (⟨(some 64), .bin .lss (.tmp 63) (.const (.int .i64 40)), some (62, true)⟩, .bool),
                  (⟨(some 65), .pick (.tmp 62) (.tmp 64) (.const (.bool false)), none⟩, .bool)]) <|
            .cond (.tmp 65)
              (.skip)
              (.exit 0)) <|
          .seq (.block 1 <|
              .seq (.reg [(⟨(some 68), .move (.tmp 9), none⟩, .ptr),
                  (⟨(some 69), .move (.tmp 1), none⟩, .any),
                  (⟨(some 70), .move (.tmp 10), none⟩, (.int .i64)),
                  (⟨(some 71), .idxSlice 5 (.tmp 69) (.tmp 70), none⟩, .ptr),
                  (⟨(some 72), .load true 5 (.tmp 71), none⟩, .any),
                  (⟨(some 73), .call k_wicketlaw04_pair_plays [(.tmp 68), (.tmp 72)], none⟩, .bool),
                  (⟨(some 74), .un .not (.tmp 73), none⟩, .bool)]) <|
              .cond (.tmp 74)
                (.seq (.reg [(⟨(some 4), .move (.const (.bool false)), none⟩, .bool)]) <|
                .ret)
                (.skip)) <|
          .reg [(⟨(some 66), .move (.tmp 10), none⟩, (.int .i64)),
            (⟨(some 67), .bin .add (.tmp 66) (.const (.int .i64 1)), none⟩, (.int .i64)),
            (⟨(some 10), .move (.tmp 67), none⟩, (.int .i64))]) <|
  .seq (.cut [] <|
      .seq (.reg [(⟨(some 11), .move (.const (.int .i64 0)), none⟩, (.int .i64))]) <|
      .block 2 <|
        .loop [(11, (.int .i64))] <|
          .seq (.seq (.reg [(⟨(some 75), .move (.tmp 11), none⟩, (.int .i64)),
                (⟨(some 76), .bin .lss (.tmp 75) (.const (.int .i64 2)), none⟩, .bool)]) <|
            .cond (.tmp 76)
              (.skip)
              (.exit 2)) <|
          .seq (.block 3 <|
              .seq (.cutn [(117, .bool)] <|
                  .regd [(⟨0, [], false, ⟨(some 79), .move (.tmp 9), none⟩⟩, .ptr),
                    (⟨1, [], false, ⟨(some 80), .move (.tmp 11), none⟩⟩, (.int .i64)),
                    (⟨2, [0], false, ⟨(some 81), .nilCheck (.tmp 79), none⟩⟩, .ptr),
                    (⟨3, [2, 0], false, ⟨(some 82), .fieldAddr 0 (.tmp 81), none⟩⟩, .ptr),
                    (⟨4, [3, 1, 2, 0], false, ⟨(some 83), .idxArr 2 1 (.tmp 82) (.tmp 80), none⟩⟩, .ptr),
                    (⟨5, [4, 3, 1, 2, 0], false, ⟨(some 84), .load false 1 (.tmp 83), none⟩⟩, .ptr),
                    (⟨8, [], false, ⟨(some 87), .move (.tmp 9), none⟩⟩, .ptr),
                    (⟨9, [], false, ⟨(some 88), .move (.tmp 11), none⟩⟩, (.int .i64)),
                    (⟨10, [8], false, ⟨(some 89), .nilCheck (.tmp 87), none⟩⟩, .ptr),
                    (⟨11, [10, 8], false, ⟨(some 90), .fieldAddr 2 (.tmp 89), none⟩⟩, .ptr),
                    (⟨12, [11, 9, 10, 8], false, ⟨(some 91), .idxArr 2 1 (.tmp 90) (.tmp 88), none⟩⟩, .ptr),
                    (⟨13, [12, 11, 9, 10, 8], false, ⟨(some 92), .load false 1 (.tmp 91), none⟩⟩, .ptr),
                    (⟨14, [13, 12, 11, 9, 10, 8], false, ⟨(some 93), .nilCheck (.tmp 92), none⟩⟩, .ptr),
                    (⟨15, [14, 13, 12, 11, 9, 10, 8], false, ⟨(some 94), .fieldAddr 0 (.tmp 93), none⟩⟩, .ptr),
                    (⟨16, [15, 14, 13, 12, 11, 9, 10, 8], false, ⟨(some 95), .load false 1 (.tmp 94), none⟩⟩, .any),
                    (⟨17, [16, 15, 14, 13, 12, 11, 9, 10, 8], false, ⟨(some 96), .toStr (.tmp 95), none⟩⟩, .any),
                    (⟨6, [5, 4, 3, 1, 2, 0], true, ⟨(some 85), .call k_sector_Disk_Image [(.tmp 84)], none⟩⟩, .any),
                    (⟨7, [6, 5, 4, 3, 1, 2, 0], false, ⟨(some 86), .toStr (.tmp 85), none⟩⟩, .any),
                    (⟨18, [7, 17, 6, 5, 4, 3, 1, 2, 0, 16, 15, 14, 13, 12, 11, 9, 10, 8], false, ⟨(some 97), .bins .neq (.tmp 86) (.tmp 96), none⟩⟩, .bool),
                    (⟨19, [18, 6, 7, 17, 5, 4, 3, 1, 2, 0, 16, 15, 14, 13, 12, 11, 9, 10, 8], false, ⟨(some 98), .move (.tmp 97), none⟩⟩, .bool),
                    (⟨20, [19, 18, 6, 7, 17, 5, 4, 3, 1, 2, 0, 16, 15, 14, 13, 12, 11, 9, 10, 8], false, ⟨(some 99), .move (.tmp 9), some (98, false)⟩⟩, .ptr),
                    (⟨21, [19, 18, 6, 7, 17, 5, 4, 3, 1, 2, 0, 16, 15, 14, 13, 12, 11, 9, 10, 8], false, ⟨(some 100), .move (.tmp 11), some (98, false)⟩⟩, (.int .i64)),
                    (⟨22, [20, 19, 18, 6, 7, 17, 5, 4, 3, 1, 2, 0, 16, 15, 14, 13, 12, 11, 9, 10, 8], false, ⟨(some 101), .nilCheck (.tmp 99), some (98, false)⟩⟩, .ptr),
                    (⟨23, [22, 19, 20, 18, 6, 7, 17, 5, 4, 3, 1, 2, 0, 16, 15, 14, 13, 12, 11, 9, 10, 8], false, ⟨(some 102), .fieldAddr 0 (.tmp 101), some (98, false)⟩⟩, .ptr),
                    (⟨24, [23, 21, 19, 22, 20, 18, 6, 7, 17, 5, 4, 3, 1, 2, 0, 16, 15, 14, 13, 12, 11, 9, 10, 8], false, ⟨(some 103), .idxArr 2 1 (.tmp 102) (.tmp 100), some (98, false)⟩⟩, .ptr),
                    (⟨25, [24, 19, 23, 21, 22, 20, 18, 6, 7, 17, 5, 4, 3, 1, 2, 0, 16, 15, 14, 13, 12, 11, 9, 10, 8], false, ⟨(some 104), .load false 1 (.tmp 103), some (98, false)⟩⟩, .ptr),
                    (⟨27, [19, 18, 6, 7, 17, 5, 4, 3, 1, 2, 0, 16, 15, 14, 13, 12, 11, 9, 10, 8], false, ⟨(some 106), .move (.tmp 9), some (98, false)⟩⟩, .ptr),
                    (⟨28, [19, 18, 6, 7, 17, 5, 4, 3, 1, 2, 0, 16, 15, 14, 13, 12, 11, 9, 10, 8], false, ⟨(some 107), .move (.tmp 11), some (98, false)⟩⟩, (.int .i64)),
                    (⟨29, [27, 19, 18, 6, 7, 17, 5, 4, 3, 1, 2, 0, 16, 15, 14, 13, 12, 11, 9, 10, 8], false, ⟨(some 108), .nilCheck (.tmp 106), some (98, false)⟩⟩, .ptr),
                    (⟨30, [29, 19, 27, 18, 6, 7, 17, 5, 4, 3, 1, 2, 0, 16, 15, 14, 13, 12, 11, 9, 10, 8], false, ⟨(some 109), .fieldAddr 2 (.tmp 108), some (98, false)⟩⟩, .ptr),
                    (⟨31, [30, 28, 19, 29, 27, 18, 6, 7, 17, 5, 4, 3, 1, 2, 0, 16, 15, 14, 13, 12, 11, 9, 10, 8], false, ⟨(some 110), .idxArr 2 1 (.tmp 109) (.tmp 107), some (98, false)⟩⟩, .ptr),
                    (⟨32, [31, 19, 30, 28, 29, 27, 18, 6, 7, 17, 5, 4, 3, 1, 2, 0, 16, 15, 14, 13, 12, 11, 9, 10, 8], false, ⟨(some 111), .load false 1 (.tmp 110), some (98, false)⟩⟩, .ptr),
                    (⟨33, [32, 19, 31, 30, 28, 29, 27, 18, 6, 7, 17, 5, 4, 3, 1, 2, 0, 16, 15, 14, 13, 12, 11, 9, 10, 8], false, ⟨(some 112), .nilCheck (.tmp 111), some (98, false)⟩⟩, .ptr),
                    (⟨34, [33, 19, 32, 31, 30, 28, 29, 27, 18, 6, 7, 17, 5, 4, 3, 1, 2, 0, 16, 15, 14, 13, 12, 11, 9, 10, 8], false, ⟨(some 113), .fieldAddr 1 (.tmp 112), some (98, false)⟩⟩, .ptr),
                    (⟨35, [34, 19, 33, 32, 31, 30, 28, 29, 27, 18, 6, 7, 17, 5, 4, 3, 1, 2, 0, 16, 15, 14, 13, 12, 11, 9, 10, 8], false, ⟨(some 114), .load false 1 (.tmp 113), some (98, false)⟩⟩, .any),
                    (⟨26, [25, 19, 24, 23, 21, 22, 20, 18, 6, 7, 17, 5, 4, 3, 1, 2, 0, 16, 15, 14, 13, 12, 11, 9, 10, 8], true, ⟨(some 105), .call k_sector_Disk_Waiting [(.tmp 104)], some (98, false)⟩⟩, .any),
                    (⟨36, [26, 35, 19, 25, 24, 23, 21, 22, 20, 18, 6, 7, 17, 5, 4, 3, 1, 2, 0, 16, 15, 14, 13, 12, 11, 9, 10, 8, 34, 33, 32, 31, 30, 28, 29, 27], true, ⟨(some 115), .call k_wicketlaw04_sameWrites [(.tmp 105), (.tmp 114)], some (98, false)⟩⟩, .bool),
                    (⟨37, [36, 19, 26, 35, 25, 24, 23, 21, 22, 20, 18, 6, 7, 17, 5, 4, 3, 1, 2, 0, 16, 15, 14, 13, 12, 11, 9, 10, 8, 34, 33, 32, 31, 30, 28, 29, 27], false, ⟨(some 116), .un .not (.tmp 115), some (98, false)⟩⟩, .bool),
                    (⟨38, [19, 37, 18, 6, 7, 17, 5, 4, 3, 1, 2, 0, 16, 15, 14, 13, 12, 11, 9, 10, 8, 36, 26, 35, 25, 24, 23, 21, 22, 20, 34, 33, 32, 31, 30, 28, 29, 27], false, ⟨(some 117), .pick (.tmp 98) (.const (.bool true)) (.tmp 116), none⟩⟩, .bool)]) <|
              .cond (.tmp 117)
                (.seq (.reg [(⟨(some 4), .move (.const (.bool false)), none⟩, .bool)]) <|
                .ret)
                (.skip)) <|
          .reg [(⟨(some 77), .move (.tmp 11), none⟩, (.int .i64)),
            (⟨(some 78), .bin .add (.tmp 77) (.const (.int .i64 1)), none⟩, (.int .i64)),
            (⟨(some 11), .move (.tmp 78), none⟩, (.int .i64))]) <|
  .seq (.seq (.reg [(⟨(some 118), .move (.tmp 9), none⟩, .ptr),
        (⟨(some 119), .nilCheck (.tmp 118), none⟩, .ptr),
        (⟨(some 120), .fieldAddr 4 (.tmp 119), none⟩, .ptr),
        (⟨(some 121), .load false 1 (.tmp 120), none⟩, .any),
        (⟨(some 122), .lenS (.tmp 121), none⟩, (.int .i64)),
        (⟨(some 123), .move (.const (.int .i64 0)), none⟩, (.int .i64))]) <|
    .block 4 <|
      .loop [(123, (.int .i64))] <|
        .seq (.reg [(⟨(some 124), .bin .lss (.tmp 123) (.tmp 122), none⟩, .any)]) <|
        .seq (.cond (.tmp 124)
            (.skip)
            (.exit 4)) <|
        .seq (.block 5 <|
            .seq (.reg [(⟨(some 125), .move (.tmp 123), none⟩, (.int .i64)),
                (⟨(some 12), .move (.tmp 125), none⟩, (.int .i64))]) <|
            .seq (.regd [(⟨0, [], false, ⟨(some 126), .move (.tmp 9), none⟩⟩, .ptr),
                (⟨1, [0], false, ⟨(some 127), .nilCheck (.tmp 126), none⟩⟩, .ptr),
                (⟨2, [1, 0], false, ⟨(some 128), .fieldAddr 4 (.tmp 127), none⟩⟩, .ptr),
                (⟨3, [2, 1, 0], false, ⟨(some 129), .load false 1 (.tmp 128), none⟩⟩, .any),
                (⟨4, [], false, ⟨(some 130), .move (.tmp 12), none⟩⟩, (.int .i64)),
                (⟨5, [3, 4, 2, 1, 0], false, ⟨(some 131), .idxSlice 1 (.tmp 129) (.tmp 130), none⟩⟩, .ptr),
                (⟨6, [5, 3, 4, 2, 1, 0], false, ⟨(some 132), .load false 1 (.tmp 131), none⟩⟩, .any),
                (⟨7, [6, 5, 3, 4, 2, 1, 0], false, ⟨(some 133), .toStr (.tmp 132), none⟩⟩, .any),
                (⟨8, [], false, ⟨(some 134), .move (.tmp 9), none⟩⟩, .ptr),
                (⟨9, [8], false, ⟨(some 135), .nilCheck (.tmp 134), none⟩⟩, .ptr),
                (⟨10, [9, 8], false, ⟨(some 136), .fieldAddr 5 (.tmp 135), none⟩⟩, .ptr),
                (⟨11, [10, 9, 8], false, ⟨(some 137), .load false 1 (.tmp 136), none⟩⟩, .any),
                (⟨12, [], false, ⟨(some 138), .move (.tmp 12), none⟩⟩, (.int .i64)),
                (⟨13, [11, 12, 10, 9, 8], false, ⟨(some 139), .idxSlice 1 (.tmp 137) (.tmp 138), none⟩⟩, .ptr),
                (⟨14, [13, 11, 12, 10, 9, 8], false, ⟨(some 140), .load false 1 (.tmp 139), none⟩⟩, .any),
                (⟨15, [14, 13, 11, 12, 10, 9, 8], false, ⟨(some 141), .toStr (.tmp 140), none⟩⟩, .any),
                (⟨16, [7, 15, 6, 5, 3, 4, 2, 1, 0, 14, 13, 11, 12, 10, 9, 8], false, ⟨(some 142), .bins .neq (.tmp 133) (.tmp 141), none⟩⟩, .bool)]) <|
            .cond (.tmp 142)
              (.seq (.reg [(⟨(some 4), .move (.const (.bool false)), none⟩, .bool)]) <|
              .ret)
              (.skip)) <|
        .reg [(⟨(some 143), .bin .add (.tmp 123) (.const (.int .i64 1)), none⟩, (.int .i64)),
          (⟨(some 123), .move (.tmp 143), none⟩, (.int .i64))]) <|
  .seq (.reg [(⟨(some 4), .move (.const (.bool true)), none⟩, .bool)]) <|
  .ret
def f_wicketlaw04_SectorPlays_L21 (n : Nat) (u1 : Value) (p7 : ((Option Addr × Unit) × Heap)) (v14 : Int) (h15 : Heap) : Option (((Int × Unit) × Heap) ⊕ (((Unit) × Heap) ⊕ ((Bool × Unit) × Heap))) :=
  (((lenB u1).bind fun n16 =>
    bif (decide (v14 < (n16 : Int))) then
      (some (((decide (v14 < 40)), ()), h15))
    else
      (some ((false, ()), h15))) : Option ((Bool × Unit) × Heap)).bind fun a17 =>
  bif a17.1.1 then
    ((ixB 5 u1 v14).bind fun q18 =>
    (ldA 5 a17.2 (some q18)).bind fun cs19 =>
    (f_wicketlaw04_pair_plays n (some (nwA p7.2)) (.agg ⟨cs19⟩) a17.2).bind fun p20 =>
    bif (!p20.1.1) then
      (some (.inr (.inr ((false, ()), p20.2))))
    else
      (some (.inl (((IntKind.i64.wrap (v14 + 1)), ()), p20.2))))
  else
    (some (.inr (.inl ((), a17.2))))
def f_wicketlaw04_SectorPlays_C22 (n : Nat) (u1 : Value) (p7 : ((Option Addr × Unit) × Heap)) (h13 : Heap) : Option (((Unit) × Heap) ⊕ ((Bool × Unit) × Heap)) :=
  loopT (fun a => f_wicketlaw04_SectorPlays_L21 n u1 p7 a.1.1 a.2) n ((0, ()), h13)
def f_wicketlaw04_SectorPlays_L48 (n : Nat) (p7 : ((Option Addr × Unit) × Heap)) (v25 : Int) (h26 : Heap) : Option (((Int × Unit) × Heap) ⊕ (((Unit) × Heap) ⊕ ((Bool × Unit) × Heap))) :=
  bif (decide (v25 < 2)) then
    ((((ixA 2 1 (some (fa (nwA p7.2) 0)) v25).bind fun q27 =>
      (ldT .ptr h26 (some q27)).bind fun x28 =>
      (ixA 2 1 (some (fa (nwA p7.2) 2)) v25).bind fun q29 =>
      (ldT .ptr h26 (some q29)).bind fun x30 =>
      (x30).bind fun q31 =>
      (ldT .any h26 (some (fa q31 0))).bind fun x32 =>
      (toStrK h26 x32).bind fun p33 =>
      (f_sector_Disk_Image n x28 (hid h26 [] (strReads x32 ++ ((Addr.block (fa q31 0)) :: ((Addr.block q29) :: []))))).bind fun p34 =>
      bnd (Heap.putBack p34.2 h26 ([] ++ (strReads x32 ++ ((Addr.block (fa q31 0)) :: ((Addr.block q29) :: []))))) fun h35 =>
      (toStrK h35 p34.1.1).bind fun p36 =>
      (binsT .bool h35 .neq p36.1 p33.1).bind fun x37 =>
      bif x37 then
        (some ((true, ()), h35))
      else
        ((ixA 2 1 (some (fa (nwA p7.2) 0)) v25).bind fun q38 =>
        (ldT .ptr h35 (some q38)).bind fun x39 =>
        (ixA 2 1 (some (fa (nwA p7.2) 2)) v25).bind fun q40 =>
        (ldT .ptr h35 (some q40)).bind fun x41 =>
        (x41).bind fun q42 =>
        (ldT .any h35 (some (fa q42 1))).bind fun x43 =>
        (f_sector_Disk_Waiting n x39 (hid h35 [] ((Addr.block (fa q42 1)) :: ((Addr.block q40) :: [])))).bind fun p44 =>
        bnd (Heap.putBack p44.2 h35 ([] ++ ((Addr.block (fa q42 1)) :: ((Addr.block q40) :: [])))) fun h45 =>
        (f_wicketlaw04_sameWrites n p44.1.1 x43 h45).bind fun p46 =>
        some (((!p46.1.1), ()), p46.2))) : Option ((Bool × Unit) × Heap)).bind fun a47 =>
    bif a47.1.1 then
      (some (.inr (.inr ((false, ()), a47.2))))
    else
      (some (.inl (((IntKind.i64.wrap (v25 + 1)), ()), a47.2))))
  else
    (some (.inr (.inl ((), h26))))
def f_wicketlaw04_SectorPlays_C49 (n : Nat) (p7 : ((Option Addr × Unit) × Heap)) (h24 : Heap) : Option (((Unit) × Heap) ⊕ ((Bool × Unit) × Heap)) :=
  loopT (fun a => f_wicketlaw04_SectorPlays_L48 n p7 a.1.1 a.2) n ((0, ()), h24)
def f_wicketlaw04_SectorPlays_L64 (n : Nat) (p7 : ((Option Addr × Unit) × Heap)) (n52 : Nat) (v53 : Int) (h54 : Heap) : Option (((Int × Unit) × Heap) ⊕ ((Bool × Unit) × Heap)) :=
  bif (decide (v53 < (n52 : Int))) then
    ((ldT .any h54 (some (fa (nwA p7.2) 4))).bind fun x55 =>
    (ixB 1 x55 v53).bind fun q56 =>
    (ldT .any h54 (some q56)).bind fun x57 =>
    (toStrK h54 x57).bind fun p58 =>
    (ldT .any h54 (some (fa (nwA p7.2) 5))).bind fun x59 =>
    (ixB 1 x59 v53).bind fun q60 =>
    (ldT .any h54 (some q60)).bind fun x61 =>
    (toStrK h54 x61).bind fun p62 =>
    (binsT .bool h54 .neq p58.1 p62.1).bind fun x63 =>
    bif x63 then
      (some (.inr ((false, ()), h54)))
    else
      (some (.inl (((IntKind.i64.wrap (v53 + 1)), ()), h54))))
  else
    (some (.inr ((true, ()), h54)))
noncomputable def sf_wicketlaw04_SectorPlays (n : Nat) : Sf := sfOf [(k_wicketlaw04_awake, s_wicketlaw04_awake n), (k_sector_New, s_sector_New n), (k_wicketref04_New, s_wicketref04_New n), (k_sector_Disk_Copy, s_sector_Disk_Copy n), (k_wicketref04_Disk_Copy, s_wicketref04_Disk_Copy n), (k_wicketlaw04_pair_plays, s_wicketlaw04_pair_plays n), (k_sector_Disk_Image, s_sector_Disk_Image n), (k_sector_Disk_Waiting, s_sector_Disk_Waiting n), (k_wicketlaw04_sameWrites, s_wicketlaw04_sameWrites n)]
noncomputable def it_wicketlaw04_SectorPlays (n : Nat) : It := itOf []
def f_wicketlaw04_SectorPlays (n : Nat) (u0 : Int) (u1 : Value) (h : Heap) : Option ((Bool × Unit) × Heap) :=
  (f_wicketlaw04_awake n h).bind fun p0 =>
  bif (!p0.1.1) then
    (some ((false, ()), p0.2))
  else
    (((bif (decide (64 < u0)) then
        (some (((IntKind.i64.wrap ((Int.tmod u0 64) + 1)), ()), p0.2))
      else
        (some ((u0, ()), p0.2))) : Option ((Int × Unit) × Heap)).bind fun a1 =>
    (f_sector_New n a1.1.1 a1.2).bind fun p2 =>
    (f_wicketref04_New n a1.1.1 p2.2).bind fun p3 =>
    ((bif (!decide (p2.1.2.1 = p3.1.2.1)) then
        (some ((true, ()), p3.2))
      else
        (some (((!((Option.isNone p2.1.1) == (Option.isNone p3.1.1))), ()), p3.2))) : Option ((Bool × Unit) × Heap)).bind fun a4 =>
    bif a4.1.1 then
      (some ((false, ()), a4.2))
    else
      (bif (Option.isNone p3.1.1) then
        (some ((true, ()), a4.2))
      else
        ((f_sector_Disk_Copy n p2.1.1 a4.2).bind fun p5 =>
        (fillL [(.pointer none), (.pointer none)] [(0, 1, (.pointer p2.1.1)), (1, 1, (.pointer p5.1.1))]).bind fun cs6 =>
        (f_wicketref04_Disk_Copy n p3.1.1 p5.2).bind fun p7 =>
        (fillL [(.pointer none), (.pointer none)] [(0, 1, (.pointer p3.1.1)), (1, 1, (.pointer p7.1.1))]).bind fun cs8 =>
        (fillL [(.pointer none), (.pointer none), (.pointer none), (.pointer none), (.slice none 0 0), (.slice none 0 0)] [(0, 2, (.agg ⟨cs6⟩)), (2, 2, (.agg ⟨cs8⟩))]).bind fun cs9 =>
        bif (cs9 : List Value).all isCell then
          (bnd ((Heap.new p7.2 (.cells cs9 false 0))) fun h10 =>
          (ixA 2 1 (some (fa (nwA p7.2) 0)) 1).bind fun q11 =>
          (ldT .ptr h10 (some q11)).bind fun x12 =>
          bif (Option.isNone x12) then
            (some ((false, ()), h10))
          else
            (thenB (f_wicketlaw04_SectorPlays_C22 n u1 p7 (h10)) fun a23 =>
            thenB (f_wicketlaw04_SectorPlays_C49 n p7 (a23.2)) fun a50 =>
            (ldT .any a50.2 (some (fa (nwA p7.2) 4))).bind fun x51 =>
            (lenB x51).bind fun n52 =>
            loopT (fun a => f_wicketlaw04_SectorPlays_L64 n p7 n52 a.1.1 a.2) n ((0, ()), a50.2)))
        else
          (none))))
def rs_wicketlaw04_SectorPlays : Rs := [(.tmp 4, .bool)]
def ps_wicketlaw04_SectorPlays : List Ty := [(.int .i64), .any]
theorem e_wicketlaw04_SectorPlays (n : Nat) (u0 : Int) (u1 : Value) (h : Heap) : f_wicketlaw04_SectorPlays n u0 u1 h = fB (sf_wicketlaw04_SectorPlays n) (it_wicketlaw04_SectorPlays n) n c2_wicketlaw04_SectorPlays rs_wicketlaw04_SectorPlays ps_wicketlaw04_SectorPlays (u0, (u1, ())) h := by kernel_rfl
noncomputable def s_wicketlaw04_SectorPlays (n : Nat) : Sf1 := mkSf ps_wicketlaw04_SectorPlays rs_wicketlaw04_SectorPlays fun a h => f_wicketlaw04_SectorPlays n a.1 a.2.1 h

/-- The table holds these. -/
structure LfT (T : Nat → Option AFun) : Prop where
  t_wicketlaw04_awake : PrimT_wicketlaw04_awake T
  t_sector_New : T k_sector_New = some ⟨List.map (·.1) rs_sector_New, C2.erase c2_sector_New, none⟩
  t_wicketref04_New : T k_wicketref04_New = some ⟨List.map (·.1) rs_wicketref04_New, C2.erase c2_wicketref04_New, none⟩
  t_wicketref04_Disk_Copy : T k_wicketref04_Disk_Copy = some ⟨List.map (·.1) rs_wicketref04_Disk_Copy, C2.erase c2_wicketref04_Disk_Copy, none⟩
  t_sector_Disk_Image : T k_sector_Disk_Image = some ⟨List.map (·.1) rs_sector_Disk_Image, C2.erase c2_sector_Disk_Image, none⟩
  t_wicketlaw04_sameWrites : T k_wicketlaw04_sameWrites = some ⟨List.map (·.1) rs_wicketlaw04_sameWrites, C2.erase c2_wicketlaw04_sameWrites, none⟩
  t_sector_Disk_Len : T k_sector_Disk_Len = some ⟨List.map (·.1) rs_sector_Disk_Len, C2.erase c2_sector_Disk_Len, none⟩
  t_sector_Disk_Crash : T k_sector_Disk_Crash = some ⟨List.map (·.1) rs_sector_Disk_Crash, C2.erase c2_sector_Disk_Crash, none⟩
  t_slices_Clone_sector_data_sector_data : T k_slices_Clone_sector_data_sector_data = some ⟨List.map (·.1) rs_slices_Clone_sector_data_sector_data, C2.erase c2_slices_Clone_sector_data_sector_data, none⟩
  t_slices_Clone_sector_waiting_sector_waiting : T k_slices_Clone_sector_waiting_sector_waiting = some ⟨List.map (·.1) rs_slices_Clone_sector_waiting_sector_waiting, C2.erase c2_slices_Clone_sector_waiting_sector_waiting, none⟩
  t_wicketlaw04_own : T k_wicketlaw04_own = some ⟨List.map (·.1) rs_wicketlaw04_own, C2.erase c2_wicketlaw04_own, none⟩
  t_wicketlaw04_marked : T k_wicketlaw04_marked = some ⟨List.map (·.1) rs_wicketlaw04_marked, C2.erase c2_wicketlaw04_marked, none⟩
  t_wicketlaw04_held : T k_wicketlaw04_held = some ⟨List.map (·.1) rs_wicketlaw04_held, C2.erase c2_wicketlaw04_held, none⟩
  t_sector_Disk_Flush : T k_sector_Disk_Flush = some ⟨List.map (·.1) rs_sector_Disk_Flush, C2.erase c2_sector_Disk_Flush, none⟩
  t_wicketref04_Disk_Crash : T k_wicketref04_Disk_Crash = some ⟨List.map (·.1) rs_wicketref04_Disk_Crash, C2.erase c2_wicketref04_Disk_Crash, none⟩
  t_wicketlaw04_Apart : T k_wicketlaw04_Apart = some ⟨List.map (·.1) rs_wicketlaw04_Apart, C2.erase c2_wicketlaw04_Apart, none⟩
  t_wicketref04_Disk_Len : T k_wicketref04_Disk_Len = some ⟨List.map (·.1) rs_wicketref04_Disk_Len, C2.erase c2_wicketref04_Disk_Len, none⟩
  t_sector_Load : T k_sector_Load = some ⟨List.map (·.1) rs_sector_Load, C2.erase c2_sector_Load, none⟩
  t_wicketref04_Load : T k_wicketref04_Load = some ⟨List.map (·.1) rs_wicketref04_Load, C2.erase c2_wicketref04_Load, none⟩
  t_slices_Clone_byte_byte : T k_slices_Clone_byte_byte = some ⟨List.map (·.1) rs_slices_Clone_byte_byte, C2.erase c2_slices_Clone_byte_byte, none⟩
  t_sector_Disk_asked : T k_sector_Disk_asked = some ⟨List.map (·.1) rs_sector_Disk_asked, C2.erase c2_sector_Disk_asked, none⟩
  t_slices_Backward_sector_waiting_sector_waiting_1 : T k_slices_Backward_sector_waiting_sector_waiting_1 = some ⟨[], C2.erase c2_slices_Backward_sector_waiting_sector_waiting_1, none⟩
  t_sector_Disk_Copy : T k_sector_Disk_Copy = some ⟨List.map (·.1) rs_sector_Disk_Copy, C2.erase c2_sector_Disk_Copy, none⟩
  t_sector_Disk_Waiting : T k_sector_Disk_Waiting = some ⟨List.map (·.1) rs_sector_Disk_Waiting, C2.erase c2_sector_Disk_Waiting, none⟩
  t_sector_Disk_Write : T k_sector_Disk_Write = some ⟨List.map (·.1) rs_sector_Disk_Write, C2.erase c2_sector_Disk_Write, none⟩
  t_wicketref04_Disk_Read : T k_wicketref04_Disk_Read = some ⟨List.map (·.1) rs_wicketref04_Disk_Read, C2.erase c2_wicketref04_Disk_Read, none⟩
  t_wicketlaw04_pair_keeps : T k_wicketlaw04_pair_keeps = some ⟨List.map (·.1) rs_wicketlaw04_pair_keeps, C2.erase c2_wicketlaw04_pair_keeps, none⟩
  t_wicketref04_Disk_Write : T k_wicketref04_Disk_Write = some ⟨List.map (·.1) rs_wicketref04_Disk_Write, C2.erase c2_wicketref04_Disk_Write, none⟩
  t_wicketref04_Disk_Flush : T k_wicketref04_Disk_Flush = some ⟨List.map (·.1) rs_wicketref04_Disk_Flush, C2.erase c2_wicketref04_Disk_Flush, none⟩
  t_slices_Backward_sector_waiting_sector_waiting : T k_slices_Backward_sector_waiting_sector_waiting = some ⟨List.map (·.1) rs_slices_Backward_sector_waiting_sector_waiting, C2.erase c2_slices_Backward_sector_waiting_sector_waiting, none⟩
  t_sector_Disk_Read : T k_sector_Disk_Read = some ⟨List.map (·.1) rs_sector_Disk_Read, C2.erase c2_sector_Disk_Read, none⟩
  t_wicketlaw04_pair_plays : T k_wicketlaw04_pair_plays = some ⟨List.map (·.1) rs_wicketlaw04_pair_plays, C2.erase c2_wicketlaw04_pair_plays, none⟩
  t_wicketlaw04_SectorPlays : T k_wicketlaw04_SectorPlays = some ⟨List.map (·.1) rs_wicketlaw04_SectorPlays, C2.erase c2_wicketlaw04_SectorPlays, none⟩
variable {T : Nat → Option AFun}
theorem ok_wicketlaw04_awake (hT : LfT T) (n : Nat) : Sf1Ok T k_wicketlaw04_awake (s_wicketlaw04_awake n) := primOk_wicketlaw04_awake hT.t_wicketlaw04_awake n
theorem ok_sector_New (hT : LfT T) (n : Nat) : Sf1Ok T k_sector_New (s_sector_New n) := mkSf_ok (sf := sf_sector_New n) (it := it_sector_New n) (n := n) hT.t_sector_New sfOk_nil itOk_nil fun a h => e_sector_New n a.1 h
theorem ok_wicketref04_New (hT : LfT T) (n : Nat) : Sf1Ok T k_wicketref04_New (s_wicketref04_New n) := mkSf_ok (sf := sf_wicketref04_New n) (it := it_wicketref04_New n) (n := n) hT.t_wicketref04_New sfOk_nil itOk_nil fun a h => e_wicketref04_New n a.1 h
theorem ok_wicketref04_Disk_Copy (hT : LfT T) (n : Nat) : Sf1Ok T k_wicketref04_Disk_Copy (s_wicketref04_Disk_Copy n) := mkSf_ok (sf := sf_wicketref04_Disk_Copy n) (it := it_wicketref04_Disk_Copy n) (n := n) hT.t_wicketref04_Disk_Copy sfOk_nil itOk_nil fun a h => e_wicketref04_Disk_Copy n a.1 h
theorem ok_sector_Disk_Image (hT : LfT T) (n : Nat) : Sf1Ok T k_sector_Disk_Image (s_sector_Disk_Image n) := mkSf_ok (sf := sf_sector_Disk_Image n) (it := it_sector_Disk_Image n) (n := n) hT.t_sector_Disk_Image sfOk_nil itOk_nil fun a h => e_sector_Disk_Image n a.1 h
theorem ok_wicketlaw04_sameWrites (hT : LfT T) (n : Nat) : Sf1Ok T k_wicketlaw04_sameWrites (s_wicketlaw04_sameWrites n) := mkSf_ok (sf := sf_wicketlaw04_sameWrites n) (it := it_wicketlaw04_sameWrites n) (n := n) hT.t_wicketlaw04_sameWrites sfOk_nil itOk_nil fun a h => e_wicketlaw04_sameWrites n a.1 a.2.1 h
theorem ok_sector_Disk_Len (hT : LfT T) (n : Nat) : Sf1Ok T k_sector_Disk_Len (s_sector_Disk_Len n) := mkSf_ok (sf := sf_sector_Disk_Len n) (it := it_sector_Disk_Len n) (n := n) hT.t_sector_Disk_Len sfOk_nil itOk_nil fun a h => e_sector_Disk_Len n a.1 h
theorem ok_sector_Disk_Crash (hT : LfT T) (n : Nat) : Sf1Ok T k_sector_Disk_Crash (s_sector_Disk_Crash n) := mkSf_ok (sf := sf_sector_Disk_Crash n) (it := it_sector_Disk_Crash n) (n := n) hT.t_sector_Disk_Crash sfOk_nil itOk_nil fun a h => e_sector_Disk_Crash n a.1 a.2.1 h
theorem ok_slices_Clone_sector_data_sector_data (hT : LfT T) (n : Nat) : Sf1Ok T k_slices_Clone_sector_data_sector_data (s_slices_Clone_sector_data_sector_data n) := mkSf_ok (sf := sf_slices_Clone_sector_data_sector_data n) (it := it_slices_Clone_sector_data_sector_data n) (n := n) hT.t_slices_Clone_sector_data_sector_data sfOk_nil itOk_nil fun a h => e_slices_Clone_sector_data_sector_data n a.1 h
theorem ok_slices_Clone_sector_waiting_sector_waiting (hT : LfT T) (n : Nat) : Sf1Ok T k_slices_Clone_sector_waiting_sector_waiting (s_slices_Clone_sector_waiting_sector_waiting n) := mkSf_ok (sf := sf_slices_Clone_sector_waiting_sector_waiting n) (it := it_slices_Clone_sector_waiting_sector_waiting n) (n := n) hT.t_slices_Clone_sector_waiting_sector_waiting sfOk_nil itOk_nil fun a h => e_slices_Clone_sector_waiting_sector_waiting n a.1 h
theorem ok_wicketlaw04_own (hT : LfT T) (n : Nat) : Sf1Ok T k_wicketlaw04_own (s_wicketlaw04_own n) := mkSf_ok (sf := sf_wicketlaw04_own n) (it := it_wicketlaw04_own n) (n := n) hT.t_wicketlaw04_own sfOk_nil itOk_nil fun a h => e_wicketlaw04_own n a.1 h
theorem ok_wicketlaw04_marked (hT : LfT T) (n : Nat) : Sf1Ok T k_wicketlaw04_marked (s_wicketlaw04_marked n) := mkSf_ok (sf := sf_wicketlaw04_marked n) (it := it_wicketlaw04_marked n) (n := n) hT.t_wicketlaw04_marked (sfOk_cons (ok_wicketlaw04_own hT n) sfOk_nil) itOk_nil fun a h => e_wicketlaw04_marked n a.1 h
theorem ok_wicketlaw04_held (hT : LfT T) (n : Nat) : Sf1Ok T k_wicketlaw04_held (s_wicketlaw04_held n) := mkSf_ok (sf := sf_wicketlaw04_held n) (it := it_wicketlaw04_held n) (n := n) hT.t_wicketlaw04_held sfOk_nil itOk_nil fun a h => e_wicketlaw04_held n a.1 a.2.1 h
theorem ok_sector_Disk_Flush (hT : LfT T) (n : Nat) : Sf1Ok T k_sector_Disk_Flush (s_sector_Disk_Flush n) := mkSf_ok (sf := sf_sector_Disk_Flush n) (it := it_sector_Disk_Flush n) (n := n) hT.t_sector_Disk_Flush sfOk_nil itOk_nil fun a h => e_sector_Disk_Flush n a.1 h
theorem ok_wicketref04_Disk_Crash (hT : LfT T) (n : Nat) : Sf1Ok T k_wicketref04_Disk_Crash (s_wicketref04_Disk_Crash n) := mkSf_ok (sf := sf_wicketref04_Disk_Crash n) (it := it_wicketref04_Disk_Crash n) (n := n) hT.t_wicketref04_Disk_Crash sfOk_nil itOk_nil fun a h => e_wicketref04_Disk_Crash n a.1 a.2.1 h
theorem ok_wicketlaw04_Apart (hT : LfT T) (n : Nat) : Sf1Ok T k_wicketlaw04_Apart (s_wicketlaw04_Apart n) := mkSf_ok (sf := sf_wicketlaw04_Apart n) (it := it_wicketlaw04_Apart n) (n := n) hT.t_wicketlaw04_Apart sfOk_nil itOk_nil fun a h => e_wicketlaw04_Apart n a.1 h
theorem ok_wicketref04_Disk_Len (hT : LfT T) (n : Nat) : Sf1Ok T k_wicketref04_Disk_Len (s_wicketref04_Disk_Len n) := mkSf_ok (sf := sf_wicketref04_Disk_Len n) (it := it_wicketref04_Disk_Len n) (n := n) hT.t_wicketref04_Disk_Len sfOk_nil itOk_nil fun a h => e_wicketref04_Disk_Len n a.1 h
theorem ok_sector_Load (hT : LfT T) (n : Nat) : Sf1Ok T k_sector_Load (s_sector_Load n) := mkSf_ok (sf := sf_sector_Load n) (it := it_sector_Load n) (n := n) hT.t_sector_Load sfOk_nil itOk_nil fun a h => e_sector_Load n a.1 h
theorem ok_wicketref04_Load (hT : LfT T) (n : Nat) : Sf1Ok T k_wicketref04_Load (s_wicketref04_Load n) := mkSf_ok (sf := sf_wicketref04_Load n) (it := it_wicketref04_Load n) (n := n) hT.t_wicketref04_Load sfOk_nil itOk_nil fun a h => e_wicketref04_Load n a.1 h
theorem ok_slices_Clone_byte_byte (hT : LfT T) (n : Nat) : Sf1Ok T k_slices_Clone_byte_byte (s_slices_Clone_byte_byte n) := mkSf_ok (sf := sf_slices_Clone_byte_byte n) (it := it_slices_Clone_byte_byte n) (n := n) hT.t_slices_Clone_byte_byte sfOk_nil itOk_nil fun a h => e_slices_Clone_byte_byte n a.1 h
theorem ok_sector_Disk_asked (hT : LfT T) (n : Nat) : Sf1Ok T k_sector_Disk_asked (s_sector_Disk_asked n) := mkSf_ok (sf := sf_sector_Disk_asked n) (it := it_sector_Disk_asked n) (n := n) hT.t_sector_Disk_asked sfOk_nil itOk_nil fun a h => e_sector_Disk_asked n a.1 a.2.1 h
theorem ok_slices_Backward_sector_waiting_sector_waiting_1 (hT : LfT T) (n : Nat) : It1Ok T k_slices_Backward_sector_waiting_sector_waiting_1 (i_slices_Backward_sector_waiting_sector_waiting_1 n) := mkIt_ok (sf := sf_slices_Backward_sector_waiting_sector_waiting_1 n) (it := it_slices_Backward_sector_waiting_sector_waiting_1 n) (n := n) hT.t_slices_Backward_sector_waiting_sector_waiting_1 sfOk_nil itOk_nil fun V hp up y a1 a2 v => e_slices_Backward_sector_waiting_sector_waiting_1 hp up y n a2.1 v
theorem ok_sector_Disk_Copy (hT : LfT T) (n : Nat) : Sf1Ok T k_sector_Disk_Copy (s_sector_Disk_Copy n) := mkSf_ok (sf := sf_sector_Disk_Copy n) (it := it_sector_Disk_Copy n) (n := n) hT.t_sector_Disk_Copy (sfOk_cons (ok_slices_Clone_sector_data_sector_data hT n) (sfOk_cons (ok_slices_Clone_sector_waiting_sector_waiting hT n) sfOk_nil)) itOk_nil fun a h => e_sector_Disk_Copy n a.1 h
theorem ok_sector_Disk_Waiting (hT : LfT T) (n : Nat) : Sf1Ok T k_sector_Disk_Waiting (s_sector_Disk_Waiting n) := mkSf_ok (sf := sf_sector_Disk_Waiting n) (it := it_sector_Disk_Waiting n) (n := n) hT.t_sector_Disk_Waiting (sfOk_cons (ok_slices_Clone_byte_byte hT n) sfOk_nil) itOk_nil fun a h => e_sector_Disk_Waiting n a.1 h
theorem ok_sector_Disk_Write (hT : LfT T) (n : Nat) : Sf1Ok T k_sector_Disk_Write (s_sector_Disk_Write n) := mkSf_ok (sf := sf_sector_Disk_Write n) (it := it_sector_Disk_Write n) (n := n) hT.t_sector_Disk_Write (sfOk_cons (ok_sector_Disk_asked hT n) sfOk_nil) itOk_nil fun a h => e_sector_Disk_Write n a.1 a.2.1 a.2.2.1 h
theorem ok_wicketref04_Disk_Read (hT : LfT T) (n : Nat) : Sf1Ok T k_wicketref04_Disk_Read (s_wicketref04_Disk_Read n) := mkSf_ok (sf := sf_wicketref04_Disk_Read n) (it := it_wicketref04_Disk_Read n) (n := n) hT.t_wicketref04_Disk_Read (sfOk_cons (ok_wicketref04_Disk_Len hT n) sfOk_nil) itOk_nil fun a h => e_wicketref04_Disk_Read n a.1 a.2.1 h
theorem ok_wicketlaw04_pair_keeps (hT : LfT T) (n : Nat) : Sf1Ok T k_wicketlaw04_pair_keeps (s_wicketlaw04_pair_keeps n) := mkSf_ok (sf := sf_wicketlaw04_pair_keeps n) (it := it_wicketlaw04_pair_keeps n) (n := n) hT.t_wicketlaw04_pair_keeps (sfOk_cons (ok_wicketlaw04_own hT n) sfOk_nil) itOk_nil fun a h => e_wicketlaw04_pair_keeps n a.1 a.2.1 h
theorem ok_wicketref04_Disk_Write (hT : LfT T) (n : Nat) : Sf1Ok T k_wicketref04_Disk_Write (s_wicketref04_Disk_Write n) := mkSf_ok (sf := sf_wicketref04_Disk_Write n) (it := it_wicketref04_Disk_Write n) (n := n) hT.t_wicketref04_Disk_Write (sfOk_cons (ok_wicketref04_Disk_Len hT n) sfOk_nil) itOk_nil fun a h => e_wicketref04_Disk_Write n a.1 a.2.1 a.2.2.1 h
theorem ok_wicketref04_Disk_Flush (hT : LfT T) (n : Nat) : Sf1Ok T k_wicketref04_Disk_Flush (s_wicketref04_Disk_Flush n) := mkSf_ok (sf := sf_wicketref04_Disk_Flush n) (it := it_wicketref04_Disk_Flush n) (n := n) hT.t_wicketref04_Disk_Flush (sfOk_cons (ok_wicketref04_Disk_Crash hT n) sfOk_nil) itOk_nil fun a h => e_wicketref04_Disk_Flush n a.1 h
theorem ok_slices_Backward_sector_waiting_sector_waiting (hT : LfT T) (n : Nat) : Sf1Ok T k_slices_Backward_sector_waiting_sector_waiting (s_slices_Backward_sector_waiting_sector_waiting n) := mkSf_ok (sf := sf_slices_Backward_sector_waiting_sector_waiting n) (it := it_slices_Backward_sector_waiting_sector_waiting n) (n := n) hT.t_slices_Backward_sector_waiting_sector_waiting sfOk_nil itOk_nil fun a h => e_slices_Backward_sector_waiting_sector_waiting n a.1 h
theorem ok_sector_Disk_Read (hT : LfT T) (n : Nat) : Sf1Ok T k_sector_Disk_Read (s_sector_Disk_Read n) := mkSf_ok (sf := sf_sector_Disk_Read n) (it := it_sector_Disk_Read n) (n := n) hT.t_sector_Disk_Read (sfOk_cons (ok_sector_Disk_asked hT n) (sfOk_cons (ok_slices_Backward_sector_waiting_sector_waiting hT n) (sfOk_cons (ok_slices_Clone_byte_byte hT n) sfOk_nil))) (itOk_cons (ok_slices_Backward_sector_waiting_sector_waiting_1 hT n) itOk_nil) fun a h => e_sector_Disk_Read n a.1 a.2.1 h
theorem ok_wicketlaw04_pair_plays (hT : LfT T) (n : Nat) : Sf1Ok T k_wicketlaw04_pair_plays (s_wicketlaw04_pair_plays n) := mkSf_ok (sf := sf_wicketlaw04_pair_plays n) (it := it_wicketlaw04_pair_plays n) (n := n) hT.t_wicketlaw04_pair_plays (sfOk_cons (ok_sector_Disk_Read hT n) (sfOk_cons (ok_wicketref04_Disk_Read hT n) (sfOk_cons (ok_wicketlaw04_pair_keeps hT n) (sfOk_cons (ok_wicketlaw04_own hT n) (sfOk_cons (ok_wicketlaw04_marked hT n) (sfOk_cons (ok_sector_Disk_Write hT n) (sfOk_cons (ok_wicketref04_Disk_Write hT n) (sfOk_cons (ok_wicketlaw04_held hT n) (sfOk_cons (ok_sector_Disk_Flush hT n) (sfOk_cons (ok_wicketref04_Disk_Flush hT n) (sfOk_cons (ok_sector_Disk_Crash hT n) (sfOk_cons (ok_wicketref04_Disk_Crash hT n) (sfOk_cons (ok_sector_Disk_Waiting hT n) (sfOk_cons (ok_wicketlaw04_sameWrites hT n) (sfOk_cons (ok_wicketlaw04_Apart hT n) (sfOk_cons (ok_sector_Disk_Image hT n) (sfOk_cons (ok_sector_Disk_Len hT n) (sfOk_cons (ok_wicketref04_Disk_Len hT n) (sfOk_cons (ok_sector_Disk_Copy hT n) (sfOk_cons (ok_wicketref04_Disk_Copy hT n) (sfOk_cons (ok_sector_Load hT n) (sfOk_cons (ok_wicketref04_Load hT n) sfOk_nil)))))))))))))))))))))) itOk_nil fun a h => e_wicketlaw04_pair_plays n a.1 a.2.1 h
theorem ok_wicketlaw04_SectorPlays (hT : LfT T) (n : Nat) : Sf1Ok T k_wicketlaw04_SectorPlays (s_wicketlaw04_SectorPlays n) := mkSf_ok (sf := sf_wicketlaw04_SectorPlays n) (it := it_wicketlaw04_SectorPlays n) (n := n) hT.t_wicketlaw04_SectorPlays (sfOk_cons (ok_wicketlaw04_awake hT n) (sfOk_cons (ok_sector_New hT n) (sfOk_cons (ok_wicketref04_New hT n) (sfOk_cons (ok_sector_Disk_Copy hT n) (sfOk_cons (ok_wicketref04_Disk_Copy hT n) (sfOk_cons (ok_wicketlaw04_pair_plays hT n) (sfOk_cons (ok_sector_Disk_Image hT n) (sfOk_cons (ok_sector_Disk_Waiting hT n) (sfOk_cons (ok_wicketlaw04_sameWrites hT n) sfOk_nil))))))))) itOk_nil fun a h => e_wicketlaw04_SectorPlays n a.1 a.2.1 h
end Go.Proofs.Ytbjipkemgnpifaa
