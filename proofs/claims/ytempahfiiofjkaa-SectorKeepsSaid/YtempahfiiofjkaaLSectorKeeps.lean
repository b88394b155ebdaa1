/- The functions at hand as plain typed functions, each with the proof that it is what the abstract machine's code does. -/
import Derived.Test.YtempahfiiofjkaaB9
import Derived.KernelRfl
namespace Go.Proofs.Ytempahfiiofjkaa
open Go
set_option linter.unusedVariables false
set_option maxRecDepth 100000
def k_wicketlaw04_awake : Nat := 4
def k_wicketlaw04_some : Nat := 5
def k_sector_New : Nat := 6
def k_sector_Disk_Flush : Nat := 8
def k_sector_Disk_Image : Nat := 9
def k_sector_Disk_Crash : Nat := 12
def k_sector_Disk_Len : Nat := 14
def k_slices_Clone_byte_byte : Nat := 16
def k_slices_Clone_sector_data_sector_data : Nat := 17
def k_slices_Clone_sector_waiting_sector_waiting : Nat := 18
def k_sector_Disk_asked : Nat := 19
def k_slices_Backward_sector_waiting_sector_waiting_1 : Nat := 21
def k_sector_Disk_Waiting : Nat := 10
def k_sector_Disk_Copy : Nat := 11
def k_sector_Disk_Write : Nat := 15
def k_slices_Backward_sector_waiting_sector_waiting : Nat := 20
def k_wicketlaw04_put : Nat := 7
def k_sector_Disk_Read : Nat := 13
def k_wicketlaw04_SectorKeeps : Nat := 3

def f_wicketlaw04_awake (n : Nat) (h : Heap) : Option ((Bool × Unit) × Heap) := yesB h
noncomputable def s_wicketlaw04_awake (n : Nat) : Sf1 := mkSf [] [(.tmp 0, .bool)] fun a h => f_wicketlaw04_awake n h
def PrimT_wicketlaw04_awake (T : Nat → Option AFun) : Prop := T k_wicketlaw04_awake = some ⟨[], .skip, some yes⟩
theorem primOk_wicketlaw04_awake {T : Nat → Option AFun} (hT : PrimT_wicketlaw04_awake T) (n : Nat) : Sf1Ok T k_wicketlaw04_awake (s_wicketlaw04_awake n) := yes_sf hT

/- wicket/wicketlaw04.some -/
def c2_wicketlaw04_some : C2 :=
  .seq (.reg [(⟨(some 2), .move (.const (.slice none 0 0)), none⟩, .any)]) <|
  .seq (.reg [(⟨(some 3), .buildSlice 0 1 [] [], none⟩, .any),
      (⟨(some 4), .move (.tmp 0), none⟩, .any),
      (⟨(some 5), .move (.tmp 0), none⟩, .any),
      (⟨(some 6), .lenS (.tmp 5), none⟩, (.int .i64)),
      (⟨(some 7), .minmax false [(.tmp 6), (.const (.int .i64 30))], none⟩, (.int .i64)),
      (⟨(some 8), .slice 1 (.tmp 4) none (some (.tmp 7)) none, none⟩, .any),
      (⟨(some 9), .append 8 1 (.tmp 3) (.tmp 8), none⟩, .any),
      (⟨(some 2), .move (.tmp 9), none⟩, .any)]) <|
  .ret
noncomputable def sf_wicketlaw04_some (n : Nat) : Sf := sfOf []
noncomputable def it_wicketlaw04_some (n : Nat) : It := itOf []
def f_wicketlaw04_some (n : Nat) (u0 : Value) (h : Heap) : Option ((Value × Unit) × Heap) :=
  (fillL [] []).bind fun cs0 =>
  bnd ((Heap.new h (.cells cs0 false 1))) fun h1 =>
  (lenB u0).bind fun n2 =>
  (sliceK h1 1 none (some (.int .i64 (if 30 < (n2 : Int) then 30 else (n2 : Int)))) none u0).bind fun p3 =>
  (appendK h1 8 1 (.slice (some ⟨Heap.next h, 0, some 0⟩) 0 0) p3.1).bind fun p4 =>
  bif !isTuple p4.1 then
    (some ((p4.1, ()), p4.2))
  else
    (none)
def rs_wicketlaw04_some : Rs := [(.tmp 2, .any)]
def ps_wicketlaw04_some : List Ty := [.any]
theorem e_wicketlaw04_some (n : Nat) (u0 : Value) (h : Heap) : f_wicketlaw04_some n u0 h = fB (sf_wicketlaw04_some n) (it_wicketlaw04_some n) n c2_wicketlaw04_some rs_wicketlaw04_some ps_wicketlaw04_some (u0, ()) h := by kernel_rfl
noncomputable def s_wicketlaw04_some (n : Nat) : Sf1 := mkSf ps_wicketlaw04_some rs_wicketlaw04_some fun a h => f_wicketlaw04_some n a.1 h

/- wicket/sector.New -/
def c2_sector_New : C2 :=
  .seq (.reg [(⟨(some 2), .move (.const (.pointer none)), none⟩, .ptr),
      (⟨(some 3), .move (.const (.int .i64 0)), none⟩, (.int .i64))]) <|
  .seq (.seq (.cutn [(9, .bool)] <|
        .reg [(⟨(some 4), .move (.tmp 0), none⟩, (.int .i64)),
          (⟨(some 5), .bin .lss (.tmp 4) (.const (.int .i64 1)), none⟩, .bool),
          (⟨(some 6), .move (.tmp 5), none⟩, .bool),
          (⟨(some 7), .move (.tmp 0), some (6, false)⟩, (.int .i64)),
          (⟨(some 8), .bin .gtr (.tmp 7) (.const (.int .i64 4096)), some (6, false)⟩, .bool),
          (⟨(some 9), .pick (.tmp 6) (.const (.bool true)) (.tmp 8), none⟩, .bool)]) <|
    .cond (.tmp 9)
      (.seq (.reg [(⟨(some 2), .move (.const (.pointer none)), none⟩, .ptr),
          (⟨(some 3), .move (.const (.int .i64 2)), none⟩, (.int .i64))]) <|
      .ret)
      (.skip)) <|
  .seq (.reg [(⟨(some 10), .move (.tmp 0), none⟩, (.int .i64)),
      (⟨(some 11), .makeSlice 64 64 (List.replicate 64 (.int .u8 0)) (.tmp 10) (.tmp 10), none⟩, .any),
      (⟨(some 12), .build [(.slice none 0 0), (.slice none 0 0)] [(0, 1, (.tmp 11))], none⟩, .any),
      (⟨(some 13), .box (.tmp 12), none⟩, .ptr),
      (⟨(some 2), .move (.tmp 13), none⟩, .ptr),
      (⟨(some 3), .move (.const (.int .i64 0)), none⟩, (.int .i64))]) <|
  .ret
noncomputable def sf_sector_New (n : Nat) : Sf := sfOf []
noncomputable def it_sector_New (n : Nat) : It := itOf []
def f_sector_New (n : Nat) (u0 : Int) (h : Heap) : Option ((Option Addr × Int × Unit) × Heap) :=
  ((bif (decide (u0 < 1)) then
      (some ((true, ()), h))
    else
      (some (((decide (4096 < u0)), ()), h))) : Option ((Bool × Unit) × Heap)).bind fun a0 =>
  bif a0.1.1 then
    (some ((none, (2, ())), a0.2))
  else
    ((mkSl (Heap.next a0.2) 64 64 (List.replicate 64 (.int .u8 0)) (.int .i64 u0) (.int .i64 u0)).bind fun p1 =>
    bnd ((Heap.new a0.2 (p1.2))) fun h2 =>
    (fillL [(.slice none 0 0), (.slice none 0 0)] [(0, 1, p1.1)]).bind fun cs3 =>
    bif (cs3 : List Value).all isCell then
      (bnd ((Heap.new h2 (.cells cs3 false 0))) fun h4 =>
      some (((some (nwA h2)), (0, ())), h4))
    else
      (none))
def rs_sector_New : Rs := [(.tmp 2, .ptr), (.tmp 3, (.int .i64))]
def ps_sector_New : List Ty := [(.int .i64)]
theorem e_sector_New (n : Nat) (u0 : Int) (h : Heap) : f_sector_New n u0 h = fB (sf_sector_New n) (it_sector_New n) n c2_sector_New rs_sector_New ps_sector_New (u0, ()) h := by kernel_rfl
noncomputable def s_sector_New (n : Nat) : Sf1 := mkSf ps_sector_New rs_sector_New fun a h => f_sector_New n a.1 h

/- (*wicket/sector.Disk).Flush -/
def c2_sector_Disk_Flush : C2 :=
  .seq (.reg [(⟨(some 2), .move (.const (.int .i64 0)), none⟩, (.int .i64)),
      (⟨(some 3), .move (.const (.int .i64 0)), none⟩, (.int .i64))]) <|
  .seq (.seq (.reg [(⟨(some 7), .move (.tmp 0), none⟩, .ptr),
        (⟨(some 8), .eqv false .ptr (.tmp 7) (.const (.pointer none)), none⟩, .bool)]) <|
    .cond (.tmp 8)
      (.seq (.reg [(⟨(some 2), .move (.const (.int .i64 0)), none⟩, (.int .i64)),
          (⟨(some 3), .move (.const (.int .i64 1)), none⟩, (.int .i64))]) <|
      .ret)
      (.skip)) <|
  .seq (.cutn [] <|
      .seq (.reg [(⟨(some 9), .move (.tmp 0), none⟩, .ptr),
          (⟨(some 10), .nilCheck (.tmp 9), none⟩, .ptr),
          (⟨(some 11), .fieldAddr 1 (.tmp 10), none⟩, .ptr),
          (⟨(some 12), .load false 1 (.tmp 11), none⟩, .any),
          (⟨(some 13), .lenS (.tmp 12), none⟩, (.int .i64)),
          (⟨(some 14), .move (.const (.int .i64 0)), none⟩, (.int .i64))]) <|
      .block 0 <|
        .loop [(14, (.int .i64))] <|
          .seq (.reg [(⟨(some 15), .bin .lss (.tmp 14) (.tmp 13), none⟩, .any)]) <|
          .seq (.cond (.tmp 15)
              (.skip)
              (.exit 0)) <|
          .seq (.block 1 <|
              .seq (.reg [(⟨(some 16), .idxSlice 65 (.tmp 12) (.tmp 14), none⟩, .ptr),
                  (⟨(some 17), .load true 65 (.tmp 16), none⟩, .any),
                  (⟨(some 5), .alloc [(.int .i64 0), (.int .u8 0), (.int .u8 0), (.int .u8 0), (.int .u8 0), (.int .u8 0), (.int .u8 0), (.int .u8 0), (.int .u8 0), (.int .u8 0), (.int .u8 0), (.int .u8 0), (.int .u8 0), (.int .u8 0), (.int .u8 0), (.int .u8 0), (.int .u8 0), (.int .u8 0), (.int .u8 0), (.int .u8 0), (.int .u8 0), (.int .u8 0), (.int .u8 0), (.int .u8 0), (.int .u8 0), (.int .u8 0), (.int .u8 0), (.int .u8 0), (.int .u8 0), (.int .u8 0), (.int .u8 0), (.int .u8 0), (.int .u8 0), (.int .u8 0), (.int .u8 0), (.int .u8 0), (.int .u8 0), (.int .u8 0), (.int .u8 0), (.int .u8 0), (.int .u8 0), (.int .u8 0), (.int .u8 0), (.int .u8 0), (.int .u8 0), (.int .u8 0), (.int .u8 0), (.int .u8 0), (.int .u8 0), (.int .u8 0), (.int .u8 0), (.int .u8 0), (.int .u8 0), (.int .u8 0), (.int .u8 0), (.int .u8 0), (.int .u8 0), (.int .u8 0), (.int .u8 0), (.int .u8 0), (.int .u8 0), (.int .u8 0), (.int .u8 0), (.int .u8 0), (.int .u8 0)], none⟩, .ptr),
                  (⟨none, .store 65 (.tmp 5) (.tmp 17), none⟩, .any)]) <|
              .regd [(⟨0, [], false, ⟨(some 18), .move (.tmp 0), none⟩⟩, .ptr),
                (⟨1, [0], false, ⟨(some 19), .nilCheck (.tmp 18), none⟩⟩, .ptr),
                (⟨2, [1, 0], false, ⟨(some 20), .fieldAddr 0 (.tmp 19), none⟩⟩, .ptr),
                (⟨3, [2, 1, 0], false, ⟨(some 21), .load false 1 (.tmp 20), none⟩⟩, .any),
                (⟨4, [], false, ⟨(some 22), .fieldAddr 0 (.tmp 5), none⟩⟩, .ptr),
                (⟨5, [4], false, ⟨(some 23), .load false 1 (.tmp 22), none⟩⟩, (.int .i64)),
                (⟨6, [], false, ⟨(some 24), .fieldAddr 1 (.tmp 5), none⟩⟩, .ptr),
                (⟨7, [6], false, ⟨(some 25), .load true 64 (.tmp 24), none⟩⟩, .any),
                (⟨8, [3, 5, 0, 1, 2, 4, 6, 7], false, ⟨(some 26), .idxSlice 64 (.tmp 21) (.tmp 23), none⟩⟩, .ptr),
                (⟨9, [8, 7, 0, 1, 2, 3, 4, 5, 6], true, ⟨none, .store 64 (.tmp 26) (.tmp 25), none⟩⟩, .any)]) <|
          .reg [(⟨(some 27), .bin .add (.tmp 14) (.const (.int .i64 1)), none⟩, (.int .i64)),
            (⟨(some 14), .move (.tmp 27), none⟩, (.int .i64))]) <|
  .seq (.reg [(⟨(some 28), .move (.tmp 0), none⟩, .ptr),
      (⟨(some 29), .nilCheck (.tmp 28), none⟩, .ptr),
      (⟨(some 30), .fieldAddr 1 (.tmp 29), none⟩, .ptr),
      (⟨(some 31), .load false 1 (.tmp 30), none⟩, .any),
      (⟨(some 32), .lenS (.tmp 31), none⟩, (.int .i64)),
      (⟨(some 6), .move (.tmp 32), none⟩, (.int .i64))]) <|
  .seq (.reg [(⟨(some 33), .move (.tmp 0), none⟩, .ptr),
      (⟨(some 34), .nilCheck (.tmp 33), none⟩, .ptr),
      (⟨(some 35), .fieldAddr 1 (.tmp 34), none⟩, .ptr),
      (⟨none, .store 1 (.tmp 35) (.const (.slice none 0 0)), none⟩, .any)]) <|
  .seq (.reg [(⟨(some 36), .move (.tmp 6), none⟩, (.int .i64)),
      (⟨(some 2), .move (.tmp 36), none⟩, (.int .i64)),
      (⟨(some 3), .move (.const (.int .i64 0)), none⟩, (.int .i64))]) <|
  .ret
def f_sector_Disk_Flush_L15 (n : Nat) (u0 : Option Addr) (x1 : Value) (n2 : Nat) (v3 : Int) (h4 : Heap) : Option (((Int × Unit) × Heap) ⊕ ((Unit) × Heap)) :=
  bif (decide (v3 < (n2 : Int))) then
    ((ixB 65 x1 v3).bind fun q5 =>
    (ldA 65 h4 (some q5)).bind fun cs6 =>
    bnd ((Heap.new h4 (.cells [(.int .i64 0), (.int .u8 0), (.int .u8 0), (.int .u8 0), (.int .u8 0), (.int .u8 0), (.int .u8 0), (.int .u8 0), (.int .u8 0), (.int .u8 0), (.int .u8 0), (.int .u8 0), (.int .u8 0), (.int .u8 0), (.int .u8 0), (.int .u8 0), (.int .u8 0), (.int .u8 0), (.int .u8 0), (.int .u8 0), (.int .u8 0), (.int .u8 0), (.int .u8 0), (.int .u8 0), (.int .u8 0), (.int .u8 0), (.int .u8 0), (.int .u8 0), (.int .u8 0), (.int .u8 0), (.int .u8 0), (.int .u8 0), (.int .u8 0), (.int .u8 0), (.int .u8 0), (.int .u8 0), (.int .u8 0), (.int .u8 0), (.int .u8 0), (.int .u8 0), (.int .u8 0), (.int .u8 0), (.int .u8 0), (.int .u8 0), (.int .u8 0), (.int .u8 0), (.int .u8 0), (.int .u8 0), (.int .u8 0), (.int .u8 0), (.int .u8 0), (.int .u8 0), (.int .u8 0), (.int .u8 0), (.int .u8 0), (.int .u8 0), (.int .u8 0), (.int .u8 0), (.int .u8 0), (.int .u8 0), (.int .u8 0), (.int .u8 0), (.int .u8 0), (.int .u8 0), (.int .u8 0)] false 0))) fun h7 =>
    (stB 65 (.agg ⟨cs6⟩) h7 (some (nwA h4))).bind fun h8 =>
    (u0).bind fun q9 =>
    (ldT .any h8 (some (fa q9 0))).bind fun x10 =>
    (ldT (.int .i64) h8 (some (fa (nwA h4) 0))).bind fun x11 =>
    (ldA 64 h8 (some (fa (nwA h4) 1))).bind fun cs12 =>
    (ixB 64 x10 x11).bind fun q13 =>
    (stB 64 (.agg ⟨cs12⟩) h8 (some q13)).bind fun h14 =>
    some (.inl (((IntKind.i64.wrap (v3 + 1)), ()), h14)))
  else
    (some (.inr ((), h4)))
noncomputable def sf_sector_Disk_Flush (n : Nat) : Sf := sfOf []
noncomputable def it_sector_Disk_Flush (n : Nat) : It := itOf []
def f_sector_Disk_Flush (n : Nat) (u0 : Option Addr) (h : Heap) : Option ((Int × Int × Unit) × Heap) :=
  bif (Option.isNone u0) then
    (some ((0, (1, ())), h))
  else
    ((((u0).bind fun q0 =>
      (ldT .any h (some (fa q0 1))).bind fun x1 =>
      (lenB x1).bind fun n2 =>
      loopT (fun a => f_sector_Disk_Flush_L15 n u0 x1 n2 a.1.1 a.2) n ((0, ()), h)) : Option ((Unit) × Heap)).bind fun a16 =>
    (u0).bind fun q17 =>
    (ldT .any a16.2 (some (fa q17 1))).bind fun x18 =>
    (lenB x18).bind fun n19 =>
    (u0).bind fun q20 =>
    (stB 1 (.slice none 0 0) a16.2 (some (fa q20 1))).bind fun h21 =>
    some (((n19 : Int), (0, ())), h21))
def rs_sector_Disk_Flush : Rs := [(.tmp 2, (.int .i64)), (.tmp 3, (.int .i64))]
def ps_sector_Disk_Flush : List Ty := [.ptr]
theorem e_sector_Disk_Flush (n : Nat) (u0 : Option Addr) (h : Heap) : f_sector_Disk_Flush n u0 h = fB (sf_sector_Disk_Flush n) (it_sector_Disk_Flush n) n c2_sector_Disk_Flush rs_sector_Disk_Flush ps_sector_Disk_Flush (u0, ()) h := by kernel_rfl
noncomputable def s_sector_Disk_Flush (n : Nat) : Sf1 := mkSf ps_sector_Disk_Flush rs_sector_Disk_Flush fun a h => f_sector_Disk_Flush n a.1 h

/- (*wicket/sector.Disk).Image -/
def c2_sector_Disk_Image : C2 :=
  .seq (.reg [(⟨(some 2), .move (.const (.slice none 0 0)), none⟩, .any)]) <|
  .seq (.seq (.reg [(⟨(some 6), .move (.tmp 0), none⟩, .ptr),
        (⟨(some 7), .eqv false .ptr (.tmp 6) (.const (.pointer none)), none⟩, .bool)]) <|
    .cond (.tmp 7)
      (.seq (.reg [(⟨(some 2), .move (.const (.slice none 0 0)), none⟩, .any)]) <|
      .ret)
      (.skip)) <|
  .seq (.reg [(⟨(some 8), .move (.tmp 0), none⟩, .ptr),
      (⟨(some 9), .nilCheck (.tmp 8), none⟩, .ptr),
      (⟨(some 10), .fieldAddr 0 (.tmp 9), none⟩, .ptr),
      (⟨(some 11), .load false 1 (.tmp 10), none⟩, .any),
      (⟨(some 12), .lenS (.tmp 11), none⟩, (.int .i64)),
      (⟨(some 13), .bin .mul (.tmp 12) (.const (.int .i64 64)), none⟩, (.int .i64)),
      (⟨(some 14), .makeSlice 1 1 [(.int .u8 0)] (.const (.int .i64 0)) (.tmp 13), none⟩, .any),
      (⟨(some 3), .move (.tmp 14), none⟩, .any)]) <|
  .seq (.seq (.reg [(⟨(some 15), .move (.tmp 0), none⟩, .ptr),
        (⟨(some 16), .nilCheck (.tmp 15), none⟩, .ptr),
        (⟨(some 17), .fieldAddr 0 (.tmp 16), none⟩, .ptr),
        (⟨(some 18), .load false 1 (.tmp 17), none⟩, .any),
        (⟨(some 19), .lenS (.tmp 18), none⟩, (.int .i64)),
        (⟨(some 20), .move (.const (.int .i64 0)), none⟩, (.int .i64))]) <|
    .block 0 <|
      .loop [(3, .any), (20, (.int .i64))] <|
        .seq (.reg [(⟨(some 21), .bin .lss (.tmp 20) (.tmp 19), none⟩, .any)]) <|
        .seq (.cond (.tmp 21)
            (.skip)
            (.exit 0)) <|
        .seq (.block 1 <|
            .seq (.reg [(⟨(some 22), .idxSlice 64 (.tmp 18) (.tmp 20), none⟩, .ptr),
                (⟨(some 23), .load true 64 (.tmp 22), none⟩, .any),
                (⟨(some 5), .alloc (List.replicate 64 (.int .u8 0)), none⟩, .ptr),
                (⟨none, .store 64 (.tmp 5) (.tmp 23), none⟩, .any)]) <|
            .reg [(⟨(some 24), .move (.tmp 3), none⟩, .any),
              (⟨(some 25), .sliceArr 64 1 (.tmp 5) none none none, none⟩, .any),
              (⟨(some 26), .append 1 1 (.tmp 24) (.tmp 25), none⟩, .any),
              (⟨(some 3), .move (.tmp 26), none⟩, .any)]) <|
        .reg [(⟨(some 27), .bin .add (.tmp 20) (.const (.int .i64 1)), none⟩, (.int .i64)),
          (⟨(some 20), .move (.tmp 27), none⟩, (.int .i64))]) <|
  .seq (.reg [(⟨(some 28), .move (.tmp 3), none⟩, .any),
      (⟨(some 2), .move (.tmp 28), none⟩, .any)]) <|
  .ret
def f_sector_Disk_Image_L17 (n : Nat) (x6 : Value) (n7 : Nat) (v8 : Value) (v9 : Int) (h10 : Heap) : Option (((Value × Int × Unit) × Heap) ⊕ ((Value × Unit) × Heap)) :=
  bif (decide (v9 < (n7 : Int))) then
    ((ixB 64 x6 v9).bind fun q11 =>
    (ldA 64 h10 (some q11)).bind fun cs12 =>
    bnd ((Heap.new h10 (.cells (List.replicate 64 (.int .u8 0)) false 0))) fun h13 =>
    (stB 64 (.agg ⟨cs12⟩) h13 (some (nwA h10))).bind fun h14 =>
    (sliceArrK h14 64 1 none none (.pointer (some (nwA h10)))).bind fun p15 =>
    (appendK h14 1 1 v8 p15.1).bind fun p16 =>
    some (.inl ((p16.1, ((IntKind.i64.wrap (v9 + 1)), ())), p16.2)))
  else
    (Option.map Sum.inr (bif !isTuple v8 then
      (some ((v8, ()), h10))
    else
      (none)))
noncomputable def sf_sector_Disk_Image (n : Nat) : Sf := sfOf []
noncomputable def it_sector_Disk_Image (n : Nat) : It := itOf []
def f_sector_Disk_Image (n : Nat) (u0 : Option Addr) (h : Heap) : Option ((Value × Unit) × Heap) :=
  bif (Option.isNone u0) then
    (some (((.slice none 0 0), ()), h))
  else
    ((u0).bind fun q0 =>
    (ldT .any h (some (fa q0 0))).bind fun x1 =>
    (lenB x1).bind fun n2 =>
    (mkSl (Heap.next h) 1 1 [(.int .u8 0)] (.int .i64 0) (.int .i64 (IntKind.i64.wrap ((n2 : Int) * 64)))).bind fun p3 =>
    bnd ((Heap.new h (p3.2))) fun h4 =>
    (u0).bind fun q5 =>
    (ldT .any h4 (some (fa q5 0))).bind fun x6 =>
    (lenB x6).bind fun n7 =>
    loopT (fun a => f_sector_Disk_Image_L17 n x6 n7 a.1.1 a.1.2.1 a.2) n ((p3.1, (0, ())), h4))
def rs_sector_Disk_Image : Rs := [(.tmp 2, .any)]
def ps_sector_Disk_Image : List Ty := [.ptr]
theorem e_sector_Disk_Image (n : Nat) (u0 : Option Addr) (h : Heap) : f_sector_Disk_Image n u0 h = fB (sf_sector_Disk_Image n) (it_sector_Disk_Image n) n c2_sector_Disk_Image rs_sector_Disk_Image ps_sector_Disk_Image (u0, ()) h := by kernel_rfl
noncomputable def s_sector_Disk_Image (n : Nat) : Sf1 := mkSf ps_sector_Disk_Image rs_sector_Disk_Image fun a h => f_sector_Disk_Image n a.1 h

/- (*wicket/sector.Disk).Crash -/
def c2_sector_Disk_Crash : C2 :=
  .seq (.reg [(⟨(some 4), .move (.const (.int .i64 0)), none⟩, (.int .i64)),
      (⟨(some 5), .move (.const (.int .i64 0)), none⟩, (.int .i64))]) <|
  .seq (.seq (.reg [(⟨(some 12), .move (.tmp 0), none⟩, .ptr),
        (⟨(some 13), .eqv false .ptr (.tmp 12) (.const (.pointer none)), none⟩, .bool)]) <|
    .cond (.tmp 13)
      (.seq (.reg [(⟨(some 4), .move (.const (.int .i64 0)), none⟩, (.int .i64)),
          (⟨(some 5), .move (.const (.int .i64 1)), none⟩, (.int .i64))]) <|
      .ret)
      (.skip)) <|
  .seq (.reg [(⟨(some 14), .move (.tmp 0), none⟩, .ptr),
      (⟨(some 15), .nilCheck (.tmp 14), none⟩, .ptr),
      (⟨(some 16), .fieldAddr 1 (.tmp 15), none⟩, .ptr),
      (⟨(some 17), .load false 1 (.tmp 16), none⟩, .any),
      (⟨(some 18), .lenS (.tmp 17), none⟩, (.int .i64)),
      (⟨(some 19), .makeSlice 1 1 [(.int .u8 0)] (.tmp 18) (.tmp 18), none⟩, .any),
      (⟨(some 6), .move (.tmp 19), none⟩, .any)]) <|
  .seq (.cutn [] <|
      .seq (.reg [(⟨(some 20), .move (.tmp 1), none⟩, .any),
          (⟨(some 21), .lenS (.tmp 20), none⟩, (.int .i64)),
          (⟨(some 22), .move (.const (.int .i64 0)), none⟩, (.int .i64))]) <|
      .block 0 <|
        .loop [(22, (.int .i64))] <|
          .seq (.reg [(⟨(some 23), .bin .lss (.tmp 22) (.tmp 21), none⟩, .any)]) <|
          .seq (.cond (.tmp 23)
              (.skip)
              (.exit 0)) <|
          .seq (.cutn [] <|
              .block 1 <|
                .seq (.reg [(⟨(some 24), .idxSlice 1 (.tmp 20) (.tmp 22), none⟩, .ptr),
                    (⟨(some 25), .load false 1 (.tmp 24), none⟩, (.int .i64)),
                    (⟨(some 8), .move (.tmp 25), none⟩, (.int .i64))]) <|
                .seq (.cutn [(33, .bool)] <|
                    .reg [(⟨(some 26), .move (.tmp 8), none⟩, (.int .i64)),
                      (⟨(some 27), .bin .geq (.tmp 26) (.const (.int .i64 0)), none⟩, .bool),
                      (⟨(some 28), .move (.tmp 27), none⟩, .bool),
                      (⟨(some 29), .move (.tmp 8), some (28, true)⟩, (.int .i64)),
                      (⟨(some 30), .move (.tmp 6), some (28, true)⟩, .any),
                      (⟨(some 31), .lenS (.tmp 30), some (28, true)⟩, (.int .i64)),
                      (⟨(some 32), .bin .lss (.tmp 29) (.tmp 31), some (28, true)⟩, .bool),
                      (⟨(some 33), .pick (.tmp 28) (.tmp 32) (.const (.bool false)), none⟩, .bool)]) <|
                .cond (.tmp 33)
                  (.reg [(⟨(some 34), .move (.tmp 6), none⟩, .any),
                    (⟨(some 35), .move (.tmp 8), none⟩, (.int .i64)),
                    (⟨(some 36), .idxSlice 1 (.tmp 34) (.tmp 35), none⟩, .ptr),
                    (⟨none, .store 1 (.tmp 36) (.const (.int .u8 1)), none⟩, .any)])
                  (.skip)) <|
          .reg [(⟨(some 37), .bin .add (.tmp 22) (.const (.int .i64 1)), none⟩, (.int .i64)),
            (⟨(some 22), .move (.tmp 37), none⟩, (.int .i64))]) <|
  .seq (.cutn [] <|
      .seq (.reg [(⟨(some 38), .move (.tmp 0), none⟩, .ptr),
          (⟨(some 39), .nilCheck (.tmp 38), none⟩, .ptr),
          (⟨(some 40), .fieldAddr 1 (.tmp 39), none⟩, .ptr),
          (⟨(some 41), .load false 1 (.tmp 40), none⟩, .any),
          (⟨(some 42), .lenS (.tmp 41), none⟩, (.int .i64)),
          (⟨(some 43), .move (.const (.int .i64 0)), none⟩, (.int .i64))]) <|
      .block 2 <|
        .loop [(43, (.int .i64))] <|
          .seq (.reg [(⟨(some 44), .bin .lss (.tmp 43) (.tmp 42), none⟩, .any)]) <|
          .seq (.cond (.tmp 44)
              (.skip)
              (.exit 2)) <|
          .seq (.cutn [] <|
              .block 3 <|
                .seq (.reg [(⟨(some 45), .move (.tmp 43), none⟩, (.int .i64)),
                    (⟨(some 46), .idxSlice 65 (.tmp 41) (.tmp 43), none⟩, .ptr),
                    (⟨(some 47), .load true 65 (.tmp 46), none⟩, .any),
                    (⟨(some 10), .alloc [(.int .i64 0), (.int .u8 0), (.int .u8 0), (.int .u8 0), (.int .u8 0), (.int .u8 0), (.int .u8 0), (.int .u8 0), (.int .u8 0), (.int .u8 0), (.int .u8 0), (.int .u8 0), (.int .u8 0), (.int .u8 0), (.int .u8 0), (.int .u8 0), (.int .u8 0), (.int .u8 0), (.int .u8 0), (.int .u8 0), (.int .u8 0), (.int .u8 0), (.int .u8 0), (.int .u8 0), (.int .u8 0), (.int .u8 0), (.int .u8 0), (.int .u8 0), (.int .u8 0), (.int .u8 0), (.int .u8 0), (.int .u8 0), (.int .u8 0), (.int .u8 0), (.int .u8 0), (.int .u8 0), (.int .u8 0), (.int .u8 0), (.int .u8 0), (.int .u8 0), (.int .u8 0), (.int .u8 0), (.int .u8 0), (.int .u8 0), (.int .u8 0), (.int .u8 0), (.int .u8 0), (.int .u8 0), (.int .u8 0), (.int .u8 0), (.int .u8 0), (.int .u8 0), (.int .u8 0), (.int .u8 0), (.int .u8 0), (.int .u8 0), (.int .u8 0), (.int .u8 0), (.int .u8 0), (.int .u8 0), (.int .u8 0), (.int .u8 0), (.int .u8 0), (.int .u8 0), (.int .u8 0)], none⟩, .ptr),
                    (⟨(some 9), .move (.tmp 45), none⟩, (.int .i64)),
                    (⟨none, .store 65 (.tmp 10) (.tmp 47), none⟩, .any)]) <|
                .seq (.reg [(⟨(some 48), .move (.tmp 6), none⟩, .any),
                    (⟨(some 49), .move (.tmp 9), none⟩, (.int .i64)),
                    (⟨(some 50), .idxSlice 1 (.tmp 48) (.tmp 49), none⟩, .ptr),
                    (⟨(some 51), .load false 1 (.tmp 50), none⟩, (.int .u8)),
                    (⟨(some 52), .bin .eql (.tmp 51) (.const (.int .u8 1)), none⟩, .bool)]) <|
                .cond (.tmp 52)
                  (.regd [(⟨0, [], false, ⟨(some 53), .move (.tmp 0), none⟩⟩, .ptr),
                    (⟨1, [0], false, ⟨(some 54), .nilCheck (.tmp 53), none⟩⟩, .ptr),
                    (⟨2, [1, 0], false, ⟨(some 55), .fieldAddr 0 (.tmp 54), none⟩⟩, .ptr),
                    (⟨3, [2, 1, 0], false, ⟨(some 56), .load false 1 (.tmp 55), none⟩⟩, .any),
                    (⟨4, [], false, ⟨(some 57), .fieldAddr 0 (.tmp 10), none⟩⟩, .ptr),
                    (⟨5, [4], false, ⟨(some 58), .load false 1 (.tmp 57), none⟩⟩, (.int .i64)),
                    (⟨6, [], false, ⟨(some 59), .fieldAddr 1 (.tmp 10), none⟩⟩, .ptr),
                    (⟨7, [6], false, ⟨(some 60), .load true 64 (.tmp 59), none⟩⟩, .any),
                    (⟨8, [3, 5, 0, 1, 2, 4, 6, 7], false, ⟨(some 61), .idxSlice 64 (.tmp 56) (.tmp 58), none⟩⟩, .ptr),
                    (⟨9, [8, 7, 0, 1, 2, 3, 4, 5, 6], true, ⟨none, .store 64 (.tmp 61) (.tmp 60), none⟩⟩, .any)])
                  (.skip)) <|
          .reg [(⟨(some 62), .bin .add (.tmp 43) (.const (.int .i64 1)), none⟩, (.int .i64)),
            (⟨(some 43), .move (.tmp 62), none⟩, (.int .i64))]) <|
  .seq (.reg [(⟨(some 63), .move (.tmp 0), none⟩, .ptr),
      (⟨(some 64), .nilCheck (.tmp 63), none⟩, .ptr),
      (⟨(some 65), .fieldAddr 1 (.tmp 64), none⟩, .ptr),
      (⟨(some 66), .load false 1 (.tmp 65), none⟩, .any),
      (⟨(some 67), .lenS (.tmp 66), none⟩, (.int .i64)),
      (⟨(some 11), .move (.tmp 67), none⟩, (.int .i64))]) <|
  .seq (.reg [(⟨(some 68), .move (.tmp 0), none⟩, .ptr),
      (⟨(some 69), .nilCheck (.tmp 68), none⟩, .ptr),
      (⟨(some 70), .fieldAddr 1 (.tmp 69), none⟩, .ptr),
      (⟨none, .store 1 (.tmp 70) (.const (.slice none 0 0)), none⟩, .any)]) <|
  .seq (.reg [(⟨(some 71), .move (.tmp 11), none⟩, (.int .i64)),
      (⟨(some 4), .move (.tmp 71), none⟩, (.int .i64)),
      (⟨(some 5), .move (.const (.int .i64 0)), none⟩, (.int .i64))]) <|
  .ret
def f_sector_Disk_Crash_L15 (n : Nat) (u1 : Value) (p3 : (Value × AObj)) (n5 : Nat) (v6 : Int) (h7 : Heap) : Option (((Int × Unit) × Heap) ⊕ ((Unit) × Heap)) :=
  bif (decide (v6 < (n5 : Int))) then
    ((((ixB 1 u1 v6).bind fun q8 =>
      (ldT (.int .i64) h7 (some q8)).bind fun x9 =>
      ((bif (decide (0 ≤ x9)) then
          ((lenB p3.1).bind fun n10 =>
          some (((decide (x9 < (n10 : Int))), ()), h7))
        else
          (some ((false, ()), h7))) : Option ((Bool × Unit) × Heap)).bind fun a11 =>
      bif a11.1.1 then
        ((ixB 1 p3.1 x9).bind fun q12 =>
        (stB 1 (.int .u8 1) a11.2 (some q12)).bind fun h13 =>
        some ((), h13))
      else
        (some ((), a11.2))) : Option ((Unit) × Heap)).bind fun a14 =>
    some (.inl (((IntKind.i64.wrap (v6 + 1)), ()), a14.2)))
  else
    (some (.inr ((), h7)))
def f_sector_Disk_Crash_L35 (n : Nat) (u0 : Option Addr) (p3 : (Value × AObj)) (x18 : Value) (n19 : Nat) (v20 : Int) (h21 : Heap) : Option (((Int × Unit) × Heap) ⊕ ((Unit) × Heap)) :=
  bif (decide (v20 < (n19 : Int))) then
    ((((ixB 65 x18 v20).bind fun q22 =>
      (ldA 65 h21 (some q22)).bind fun cs23 =>
      bnd ((Heap.new h21 (.cells [(.int .i64 0), (.int .u8 0), (.int .u8 0), (.int .u8 0), (.int .u8 0), (.int .u8 0), (.int .u8 0), (.int .u8 0), (.int .u8 0), (.int .u8 0), (.int .u8 0), (.int .u8 0), (.int .u8 0), (.int .u8 0), (.int .u8 0), (.int .u8 0), (.int .u8 0), (.int .u8 0), (.int .u8 0), (.int .u8 0), (.int .u8 0), (.int .u8 0), (.int .u8 0), (.int .u8 0), (.int .u8 0), (.int .u8 0), (.int .u8 0), (.int .u8 0), (.int .u8 0), (.int .u8 0), (.int .u8 0), (.int .u8 0), (.int .u8 0), (.int .u8 0), (.int .u8 0), (.int .u8 0), (.int .u8 0), (.int .u8 0), (.int .u8 0), (.int .u8 0), (.int .u8 0), (.int .u8 0), (.int .u8 0), (.int .u8 0), (.int .u8 0), (.int .u8 0), (.int .u8 0), (.int .u8 0), (.int .u8 0), (.int .u8 0), (.int .u8 0), (.int .u8 0), (.int .u8 0), (.int .u8 0), (.int .u8 0), (.int .u8 0), (.int .u8 0), (.int .u8 0), (.int .u8 0), (.int .u8 0), (.int .u8 0), (.int .u8 0), (.int .u8 0), (.int .u8 0), (.int .u8 0)] false 0))) fun h24 =>
      (stB 65 (.agg ⟨cs23⟩) h24 (some (nwA h21))).bind fun h25 =>
      (ixB 1 p3.1 v20).bind fun q26 =>
      (ldT (.int .u8) h25 (some q26)).bind fun x27 =>
      bif (decide (x27 = 1)) then
        ((u0).bind fun q28 =>
        (ldT .any h25 (some (fa q28 0))).bind fun x29 =>
        (ldT (.int .i64) h25 (some (fa (nwA h21) 0))).bind fun x30 =>
        (ldA 64 h25 (some (fa (nwA h21) 1))).bind fun cs31 =>
        (ixB 64 x29 x30).bind fun q32 =>
        (stB 64 (.agg ⟨cs31⟩) h25 (some q32)).bind fun h33 =>
        some ((), h33))
      else
        (some ((), h25))) : Option ((Unit) × Heap)).bind fun a34 =>
    some (.inl (((IntKind.i64.wrap (v20 + 1)), ()), a34.2)))
  else
    (some (.inr ((), h21)))
noncomputable def sf_sector_Disk_Crash (n : Nat) : Sf := sfOf []
noncomputable def it_sector_Disk_Crash (n : Nat) : It := itOf []
def f_sector_Disk_Crash (n : Nat) (u0 : Option Addr) (u1 : Value) (h : Heap) : Option ((Int × Int × Unit) × Heap) :=
  bif (Option.isNone u0) then
    (some ((0, (1, ())), h))
  else
    ((u0).bind fun q0 =>
    (ldT .any h (some (fa q0 1))).bind fun x1 =>
    (lenB x1).bind fun n2 =>
    (mkSl (Heap.next h) 1 1 [(.int .u8 0)] (.int .i64 (n2 : Int)) (.int .i64 (n2 : Int))).bind fun p3 =>
    bnd ((Heap.new h (p3.2))) fun h4 =>
    (((lenB u1).bind fun n5 =>
      loopT (fun a => f_sector_Disk_Crash_L15 n u1 p3 n5 a.1.1 a.2) n ((0, ()), h4)) : Option ((Unit) × Heap)).bind fun a16 =>
    (((u0).bind fun q17 =>
      (ldT .any a16.2 (some (fa q17 1))).bind fun x18 =>
      (lenB x18).bind fun n19 =>
      loopT (fun a => f_sector_Disk_Crash_L35 n u0 p3 x18 n19 a.1.1 a.2) n ((0, ()), a16.2)) : Option ((Unit) × Heap)).bind fun a36 =>
    (u0).bind fun q37 =>
    (ldT .any a36.2 (some (fa q37 1))).bind fun x38 =>
    (lenB x38).bind fun n39 =>
    (u0).bind fun q40 =>
    (stB 1 (.slice none 0 0) a36.2 (some (fa q40 1))).bind fun h41 =>
    some (((n39 : Int), (0, ())), h41))
def rs_sector_Disk_Crash : Rs := [(.tmp 4, (.int .i64)), (.tmp 5, (.int .i64))]
def ps_sector_Disk_Crash : List Ty := [.ptr, .any]
theorem e_sector_Disk_Crash (n : Nat) (u0 : Option Addr) (u1 : Value) (h : Heap) : f_sector_Disk_Crash n u0 u1 h = fB (sf_sector_Disk_Crash n) (it_sector_Disk_Crash n) n c2_sector_Disk_Crash rs_sector_Disk_Crash ps_sector_Disk_Crash (u0, (u1, ())) h := by kernel_rfl
noncomputable def s_sector_Disk_Crash (n : Nat) : Sf1 := mkSf ps_sector_Disk_Crash rs_sector_Disk_Crash fun a h => f_sector_Disk_Crash n a.1 a.2.1 h

/- (*wicket/sector.Disk).Len -/
def c2_sector_Disk_Len : C2 :=
  .seq (.reg [(⟨(some 2), .move (.const (.int .i64 0)), none⟩, (.int .i64))]) <|
  .seq (.seq (.reg [(⟨(some 3), .move (.tmp 0), none⟩, .ptr),
        (⟨(some 4), .eqv false .ptr (.tmp 3) (.const (.pointer none)), none⟩, .bool)]) <|
    .cond (.tmp 4)
      (.seq (.reg [(⟨(some 2), .move (.const (.int .i64 0)), none⟩, (.int .i64))]) <|
      .ret)
      (.skip)) <|
  .seq (.reg [(⟨(some 5), .move (.tmp 0), none⟩, .ptr),
      (⟨(some 6), .nilCheck (.tmp 5), none⟩, .ptr),
      (⟨(some 7), .fieldAddr 0 (.tmp 6), none⟩, .ptr),
      (⟨(some 8), .load false 1 (.tmp 7), none⟩, .any),
      (⟨(some 9), .lenS (.tmp 8), none⟩, (.int .i64)),
      (⟨(some 2), .move (.tmp 9), none⟩, (.int .i64))]) <|
  .ret
noncomputable def sf_sector_Disk_Len (n : Nat) : Sf := sfOf []
noncomputable def it_sector_Disk_Len (n : Nat) : It := itOf []
def f_sector_Disk_Len (n : Nat) (u0 : Option Addr) (h : Heap) : Option ((Int × Unit) × Heap) :=
  bif (Option.isNone u0) then
    (some ((0, ()), h))
  else
    ((u0).bind fun q0 =>
    (ldT .any h (some (fa q0 0))).bind fun x1 =>
    (lenB x1).bind fun n2 =>
    some (((n2 : Int), ()), h))
def rs_sector_Disk_Len : Rs := [(.tmp 2, (.int .i64))]
def ps_sector_Disk_Len : List Ty := [.ptr]
theorem e_sector_Disk_Len (n : Nat) (u0 : Option Addr) (h : Heap) : f_sector_Disk_Len n u0 h = fB (sf_sector_Disk_Len n) (it_sector_Disk_Len n) n c2_sector_Disk_Len rs_sector_Disk_Len ps_sector_Disk_Len (u0, ()) h := by kernel_rfl
noncomputable def s_sector_Disk_Len (n : Nat) : Sf1 := mkSf ps_sector_Disk_Len rs_sector_Disk_Len fun a h => f_sector_Disk_Len n a.1 h

/- slices.Clone[[]byte,byte] -/
def c2_slices_Clone_byte_byte : C2 :=
  .seq (.reg [(⟨(some 2), .move (.const (.slice none 0 0)), none⟩, .any)]) <|
  .seq (.seq (.reg [(⟨(some 3), .move (.tmp 0), none⟩, .any),
        (⟨(some 4), .eqv false .slice (.tmp 3) (.const (.slice none 0 0)), none⟩, .bool)]) <|
    .cond (.tmp 4)
      (.seq (.reg [(⟨(some 2), .move (.const (.slice none 0 0)), none⟩, .any)]) <|
      .ret)
      (.skip)) <|
  .seq (.reg [(⟨(some 5), .buildSlice 0 1 [] [], none⟩, .any),
      (⟨(some 6), .move (.tmp 0), none⟩, .any),
      (⟨(some 7), .append 1 1 (.tmp 5) (.tmp 6), none⟩, .any),
      (⟨(some 2), .move (.tmp 7), none⟩, .any)]) <|
  .ret
noncomputable def sf_slices_Clone_byte_byte (n : Nat) : Sf := sfOf []
noncomputable def it_slices_Clone_byte_byte (n : Nat) : It := itOf []
def f_slices_Clone_byte_byte (n : Nat) (u0 : Value) (h : Heap) : Option ((Value × Unit) × Heap) :=
  (eqVals h .slice u0 (.slice none 0 0)).bind fun b0 =>
  bif b0 then
    (some (((.slice none 0 0), ()), h))
  else
    ((fillL [] []).bind fun cs1 =>
    bnd ((Heap.new h (.cells cs1 false 1))) fun h2 =>
    (appendK h2 1 1 (.slice (some ⟨Heap.next h, 0, some 0⟩) 0 0) u0).bind fun p3 =>
    bif !isTuple p3.1 then
      (some ((p3.1, ()), p3.2))
    else
      (none))
def rs_slices_Clone_byte_byte : Rs := [(.tmp 2, .any)]
def ps_slices_Clone_byte_byte : List Ty := [.any]
theorem e_slices_Clone_byte_byte (n : Nat) (u0 : Value) (h : Heap) : f_slices_Clone_byte_byte n u0 h = fB (sf_slices_Clone_byte_byte n) (it_slices_Clone_byte_byte n) n c2_slices_Clone_byte_byte rs_slices_Clone_byte_byte ps_slices_Clone_byte_byte (u0, ()) h := by kernel_rfl
noncomputable def s_slices_Clone_byte_byte (n : Nat) : Sf1 := mkSf ps_slices_Clone_byte_byte rs_slices_Clone_byte_byte fun a h => f_slices_Clone_byte_byte n a.1 h

/- slices.Clone[[]wicket/sector.data,wicket/sector.data] -/
def c2_slices_Clone_sector_data_sector_data : C2 :=
  .seq (.reg [(⟨(some 2), .move (.const (.slice none 0 0)), none⟩, .any)]) <|
  .seq (.seq (.reg [(⟨(some 3), .move (.tmp 0), none⟩, .any),
        (⟨(some 4), .eqv false .slice (.tmp 3) (.const (.slice none 0 0)), none⟩, .bool)]) <|
    .cond (.tmp 4)
      (.seq (.reg [(⟨(some 2), .move (.const (.slice none 0 0)), none⟩, .any)]) <|
      .ret)
      (.skip)) <|
  .seq (.reg [(⟨(some 5), .buildSlice 0 64 [] [], none⟩, .any),
      (⟨(some 6), .move (.tmp 0), none⟩, .any),
      (⟨(some 7), .append 64 64 (.tmp 5) (.tmp 6), none⟩, .any),
      (⟨(some 2), .move (.tmp 7), none⟩, .any)]) <|
  .ret
noncomputable def sf_slices_Clone_sector_data_sector_data (n : Nat) : Sf := sfOf []
noncomputable def it_slices_Clone_sector_data_sector_data (n : Nat) : It := itOf []
def f_slices_Clone_sector_data_sector_data (n : Nat) (u0 : Value) (h : Heap) : Option ((Value × Unit) × Heap) :=
  (eqVals h .slice u0 (.slice none 0 0)).bind fun b0 =>
  bif b0 then
    (some (((.slice none 0 0), ()), h))
  else
    ((fillL [] []).bind fun cs1 =>
    bnd ((Heap.new h (.cells cs1 false 64))) fun h2 =>
    (appendK h2 64 64 (.slice (some ⟨Heap.next h, 0, some 0⟩) 0 0) u0).bind fun p3 =>
    bif !isTuple p3.1 then
      (some ((p3.1, ()), p3.2))
    else
      (none))
def rs_slices_Clone_sector_data_sector_data : Rs := [(.tmp 2, .any)]
def ps_slices_Clone_sector_data_sector_data : List Ty := [.any]
theorem e_slices_Clone_sector_data_sector_data (n : Nat) (u0 : Value) (h : Heap) : f_slices_Clone_sector_data_sector_data n u0 h = fB (sf_slices_Clone_sector_data_sector_data n) (it_slices_Clone_sector_data_sector_data n) n c2_slices_Clone_sector_data_sector_data rs_slices_Clone_sector_data_sector_data ps_slices_Clone_sector_data_sector_data (u0, ()) h := by kernel_rfl
noncomputable def s_slices_Clone_sector_data_sector_data (n : Nat) : Sf1 := mkSf ps_slices_Clone_sector_data_sector_data rs_slices_Clone_sector_data_sector_data fun a h => f_slices_Clone_sector_data_sector_data n a.1 h

/- slices.Clone[[]wicket/sector.waiting,wicket/sector.waiting] -/
def c2_slices_Clone_sector_waiting_sector_waiting : C2 :=
  .seq (.reg [(⟨(some 2), .move (.const (.slice none 0 0)), none⟩, .any)]) <|
  .seq (.seq (.reg [(⟨(some 3), .move (.tmp 0), none⟩, .any),
        (⟨(some 4), .eqv false .slice (.tmp 3) (.const (.slice none 0 0)), none⟩, .bool)]) <|
    .cond (.tmp 4)
      (.seq (.reg [(⟨(some 2), .move (.const (.slice none 0 0)), none⟩, .any)]) <|
      .ret)
      (.skip)) <|
  .seq (.reg [(⟨(some 5), .buildSlice 0 65 [] [], none⟩, .any),
      (⟨(some 6), .move (.tmp 0), none⟩, .any),
      (⟨(some 7), .append 72 65 (.tmp 5) (.tmp 6), none⟩, .any),
      (⟨(some 2), .move (.tmp 7), none⟩, .any)]) <|
  .ret
noncomputable def sf_slices_Clone_sector_waiting_sector_waiting (n : Nat) : Sf := sfOf []
noncomputable def it_slices_Clone_sector_waiting_sector_waiting (n : Nat) : It := itOf []
def f_slices_Clone_sector_waiting_sector_waiting (n : Nat) (u0 : Value) (h : Heap) : Option ((Value × Unit) × Heap) :=
  (eqVals h .slice u0 (.slice none 0 0)).bind fun b0 =>
  bif b0 then
    (some (((.slice none 0 0), ()), h))
  else
    ((fillL [] []).bind fun cs1 =>
    bnd ((Heap.new h (.cells cs1 false 65))) fun h2 =>
    (appendK h2 72 65 (.slice (some ⟨Heap.next h, 0, some 0⟩) 0 0) u0).bind fun p3 =>
    bif !isTuple p3.1 then
      (some ((p3.1, ()), p3.2))
    else
      (none))
def rs_slices_Clone_sector_waiting_sector_waiting : Rs := [(.tmp 2, .any)]
def ps_slices_Clone_sector_waiting_sector_waiting : List Ty := [.any]
theorem e_slices_Clone_sector_waiting_sector_waiting (n : Nat) (u0 : Value) (h : Heap) : f_slices_Clone_sector_waiting_sector_waiting n u0 h = fB (sf_slices_Clone_sector_waiting_sector_waiting n) (it_slices_Clone_sector_waiting_sector_waiting n) n c2_slices_Clone_sector_waiting_sector_waiting rs_slices_Clone_sector_waiting_sector_waiting ps_slices_Clone_sector_waiting_sector_waiting (u0, ()) h := by kernel_rfl
noncomputable def s_slices_Clone_sector_waiting_sector_waiting (n : Nat) : Sf1 := mkSf ps_slices_Clone_sector_waiting_sector_waiting rs_slices_Clone_sector_waiting_sector_waiting fun a h => f_slices_Clone_sector_waiting_sector_waiting n a.1 h

/- (*wicket/sector.Disk).asked -/
def c2_sector_Disk_asked : C2 :=
  .seq (.reg [(⟨(some 4), .move (.const (.int .i64 0)), none⟩, (.int .i64))]) <|
  .seq (.block 0 <|
      .seq (.reg [(⟨(some 6), .move (.tmp 0), none⟩, .ptr),
          (⟨(some 7), .eqv false .ptr (.tmp 6) (.const (.pointer none)), none⟩, .bool),
          (⟨(some 5), .move (.tmp 7), none⟩, .bool)]) <|
      .cond (.tmp 5)
        (.seq (.reg [(⟨(some 4), .move (.const (.int .i64 1)), none⟩, (.int .i64))]) <|
        .ret)
        (.seq (.cutn [(8, .bool)] <|
            .reg [(⟨(some 9), .move (.tmp 1), none⟩, (.int .i64)),
              (⟨(some 10), .bin .lss (.tmp 9) (.const (.int .i64 0)), none⟩, .bool),
              (⟨(some 11), .move (.tmp 10), none⟩, .bool),
              (⟨(some 12), .move (.tmp 1), some (11, false)⟩, (.int .i64)),
              (⟨(some 13), .move (.tmp 0), some (11, false)⟩, .ptr),
              (⟨(some 14), .nilCheck (.tmp 13), some (11, false)⟩, .ptr),
              (⟨(some 15), .fieldAddr 0 (.tmp 14), some (11, false)⟩, .ptr),
              (⟨(some 16), .load false 1 (.tmp 15), some (11, false)⟩, .any),
              (⟨(some 17), .lenS (.tmp 16), some (11, false)⟩, (.int .i64)),
              (⟨(some 18), .bin .geq (.tmp 12) (.tmp 17), some (11, false)⟩, .bool),
              (⟨(some 19), .pick (.tmp 11) (.const (.bool true)) (.tmp 18), none⟩, .bool),
              (⟨(some 8), .move (.tmp 19), none⟩, .bool)]) <|
        .cond (.tmp 8)
          (.seq (.reg [(⟨(some 4), .move (.const (.int .i64 40)), none⟩, (.int .i64))]) <|
          .ret)
          (.skip))) <|
  .seq (.reg [(⟨(some 4), .move (.const (.int .i64 0)), none⟩, (.int .i64))]) <|
  .ret
noncomputable def sf_sector_Disk_asked (n : Nat) : Sf := sfOf []
noncomputable def it_sector_Disk_asked (n : Nat) : It := itOf []
def f_sector_Disk_asked (n : Nat) (u0 : Option Addr) (u1 : Int) (h : Heap) : Option ((Int × Unit) × Heap) :=
  bif (Option.isNone u0) then
    (some ((1, ()), h))
  else
    (((bif (decide (u1 < 0)) then
        (some ((true, ()), h))
      else
        ((u0).bind fun q0 =>
        (ldT .any h (some (fa q0 0))).bind fun x1 =>
        (lenB x1).bind fun n2 =>
        some (((decide ((n2 : Int) ≤ u1)), ()), h))) : Option ((Bool × Unit) × Heap)).bind fun a3 =>
    bif a3.1.1 then
      (some ((40, ()), a3.2))
    else
      (some ((0, ()), a3.2)))
def rs_sector_Disk_asked : Rs := [(.tmp 4, (.int .i64))]
def ps_sector_Disk_asked : List Ty := [.ptr, (.int .i64)]
theorem e_sector_Disk_asked (n : Nat) (u0 : Option Addr) (u1 : Int) (h : Heap) : f_sector_Disk_asked n u0 u1 h = fB (sf_sector_Disk_asked n) (it_sector_Disk_asked n) n c2_sector_Disk_asked rs_sector_Disk_asked ps_sector_Disk_asked (u0, (u1, ())) h := by kernel_rfl
noncomputable def s_sector_Disk_asked (n : Nat) : Sf1 := mkSf ps_sector_Disk_asked rs_sector_Disk_asked fun a h => f_sector_Disk_asked n a.1 a.2.1 h

/- slices.Backward[[]wicket/sector.waiting,wicket/sector.waiting]$1 -/
def c2_slices_Backward_sector_waiting_sector_waiting_1 : C2 :=
  .seq (.reg [(⟨(some 4), .load false 1 (.tmp 1), none⟩, .any),
      (⟨(some 5), .lenS (.tmp 4), none⟩, (.int .i64)),
      (⟨(some 6), .bin .sub (.tmp 5) (.const (.int .i64 1)), none⟩, (.int .i64)),
      (⟨(some 3), .move (.tmp 6), none⟩, (.int .i64))]) <|
  .block 0 <|
    .loop [(3, (.int .i64))] <|
      .seq (.seq (.reg [(⟨(some 7), .move (.tmp 3), none⟩, (.int .i64)),
            (⟨(some 8), .bin .geq (.tmp 7) (.const (.int .i64 0)), none⟩, .bool)]) <|
        .cond (.tmp 8)
          (.skip)
          (.exit 0)) <|
      .seq (.block 1 <|
          .seq (.reg [(⟨(some 11), .move (.tmp 0), none⟩, .any),
              (⟨(some 12), .move (.tmp 3), none⟩, (.int .i64)),
              (⟨(some 13), .load false 1 (.tmp 1), none⟩, .any),
              (⟨(some 14), .move (.tmp 3), none⟩, (.int .i64)),
              (⟨(some 15), .idxSlice 65 (.tmp 13) (.tmp 14), none⟩, .ptr),
              (⟨(some 16), .load true 65 (.tmp 15), none⟩, .any),
              (⟨(some 17), .callv (.tmp 11) [(.tmp 12), (.tmp 16)], none⟩, .bool),
              (⟨(some 18), .un .not (.tmp 17), none⟩, .bool)]) <|
          .cond (.tmp 18)
            (.ret)
            (.skip)) <|
      .reg [(⟨(some 9), .move (.tmp 3), none⟩, (.int .i64)),
        (⟨(some 10), .bin .sub (.tmp 9) (.const (.int .i64 1)), none⟩, (.int .i64)),
        (⟨(some 3), .move (.tmp 10), none⟩, (.int .i64))]
def f_slices_Backward_sector_waiting_sector_waiting_1_L8 {V : Type} (hp : V → Heap) (up : V → Heap → V) (y : (Int × Value × Unit) → V → Option (Bool × V)) (n : Nat) (u0 : Option Addr) (v2 : Int) (w3 : V) : Option (((Int × Unit) × V) ⊕ (V)) :=
  bif (decide (0 ≤ v2)) then
    ((ldT .any (hp w3) u0).bind fun x4 =>
    (ixB 65 x4 v2).bind fun q5 =>
    (ldA 65 (hp w3) (some q5)).bind fun cs6 =>
    (y (v2, ((.agg ⟨cs6⟩), ())) w3).bind fun p7 =>
    bif (!p7.1) then
      (some (.inr p7.2))
    else
      (some (.inl (((IntKind.i64.wrap (v2 - 1)), ()), p7.2))))
  else
    (some (.inr w3))
noncomputable def sf_slices_Backward_sector_waiting_sector_waiting_1 (n : Nat) : Sf := sfOf []
noncomputable def it_slices_Backward_sector_waiting_sector_waiting_1 (n : Nat) : It := itOf []
def f_slices_Backward_sector_waiting_sector_waiting_1 {V : Type} (hp : V → Heap) (up : V → Heap → V) (y : (Int × Value × Unit) → V → Option (Bool × V)) (n : Nat) (u0 : Option Addr) (w : V) : Option V :=
  (ldT .any (hp w) u0).bind fun x0 =>
  (lenB x0).bind fun n1 =>
  loopT (fun a => f_slices_Backward_sector_waiting_sector_waiting_1_L8 hp up y n u0 a.1.1 a.2) n (((IntKind.i64.wrap ((n1 : Int) - 1)), ()), w)
theorem e_slices_Backward_sector_waiting_sector_waiting_1 {V : Type} (hp : V → Heap) (up : V → Heap → V) (y : (Int × Value × Unit) → V → Option (Bool × V)) (n : Nat) (u0 : Option Addr) (w : V) : f_slices_Backward_sector_waiting_sector_waiting_1 hp up y n u0 w = fI (sf_slices_Backward_sector_waiting_sector_waiting_1 n) (it_slices_Backward_sector_waiting_sector_waiting_1 n) n c2_slices_Backward_sector_waiting_sector_waiting_1 [] [.ptr] [(.int .i64), .any] hp up y () (u0, ()) w := by kernel_rfl
noncomputable def i_slices_Backward_sector_waiting_sector_waiting_1 (n : Nat) : It1 := mkIt [] [.ptr] [(.int .i64), .any] fun hp up y _ a2 v => f_slices_Backward_sector_waiting_sector_waiting_1 hp up y n a2.1 v

/- (*wicket/sector.Disk).Waiting -/
def c2_sector_Disk_Waiting : C2 :=
  .seq (.reg [(⟨(some 2), .move (.const (.slice none 0 0)), none⟩, .any)]) <|
  .seq (.seq (.reg [(⟨(some 6), .move (.tmp 0), none⟩, .ptr),
        (⟨(some 7), .eqv false .ptr (.tmp 6) (.const (.pointer none)), none⟩, .bool)]) <|
    .cond (.tmp 7)
      (.seq (.reg [(⟨(some 2), .move (.const (.slice none 0 0)), none⟩, .any)]) <|
      .ret)
      (.skip)) <|
  .seq (.reg [(⟨(some 3), .move (.const (.slice none 0 0)), none⟩, .any)]) <|
  .seq (.seq (.reg [(⟨(some 8), .move (.tmp 0), none⟩, .ptr),
        (⟨(some 9), .nilCheck (.tmp 8), none⟩, .ptr),
        (⟨(some 10), .fieldAddr 1 (.tmp 9), none⟩, .ptr),
        (⟨(some 11), .load false 1 (.tmp 10), none⟩, .any),
        (⟨(some 12), .lenS (.tmp 11), none⟩, (.int .i64)),
        (⟨(some 13), .move (.const (.int .i64 0)), none⟩, (.int .i64))]) <|
    .block 0 <|
      .loop [(3, .any), (13, (.int .i64))] <|
        .seq (.reg [(⟨(some 14), .bin .lss (.tmp 13) (.tmp 12), none⟩, .any)]) <|
        .seq (.cond (.tmp 14)
            (.skip)
            (.exit 0)) <|
        .seq (.block 1 <|
            .seq (.reg [(⟨(some 15), .idxSlice 65 (.tmp 11) (.tmp 13), none⟩, .ptr),
                (⟨(some 16), .load true 65 (.tmp 15), none⟩, .any),
                (⟨(some 5), .alloc [(.int .i64 0), (.int .u8 0), (.int .u8 0), (.int .u8 0), (.int .u8 0), (.int .u8 0), (.int .u8 0), (.int .u8 0), (.int .u8 0), (.int .u8 0), (.int .u8 0), (.int .u8 0), (.int .u8 0), (.int .u8 0), (.int .u8 0), (.int .u8 0), (.int .u8 0), (.int .u8 0), (.int .u8 0), (.int .u8 0), (.int .u8 0), (.int .u8 0), (.int .u8 0), (.int .u8 0), (.int .u8 0), (.int .u8 0), (.int .u8 0), (.int .u8 0), (.int .u8 0), (.int .u8 0), (.int .u8 0), (.int .u8 0), (.int .u8 0), (.int .u8 0), (.int .u8 0), (.int .u8 0), (.int .u8 0), (.int .u8 0), (.int .u8 0), (.int .u8 0), (.int .u8 0), (.int .u8 0), (.int .u8 0), (.int .u8 0), (.int .u8 0), (.int .u8 0), (.int .u8 0), (.int .u8 0), (.int .u8 0), (.int .u8 0), (.int .u8 0), (.int .u8 0), (.int .u8 0), (.int .u8 0), (.int .u8 0), (.int .u8 0), (.int .u8 0), (.int .u8 0), (.int .u8 0), (.int .u8 0), (.int .u8 0), (.int .u8 0), (.int .u8 0), (.int .u8 0), (.int .u8 0)], none⟩, .ptr),
                (⟨none, .store 65 (.tmp 5) (.tmp 16), none⟩, .any)]) <|
            .regd [(⟨0, [], false, ⟨(some 17), .move (.tmp 3), none⟩⟩, .any),
              (⟨1, [], false, ⟨(some 18), .fieldAddr 0 (.tmp 5), none⟩⟩, .ptr),
              (⟨2, [1], false, ⟨(some 19), .load false 1 (.tmp 18), none⟩⟩, (.int .i64)),
              (⟨3, [], false, ⟨(some 20), .fieldAddr 1 (.tmp 5), none⟩⟩, .ptr),
              (⟨4, [3], false, ⟨(some 21), .sliceArr 64 1 (.tmp 20) none none none, none⟩⟩, .any),
              (⟨5, [4, 3], true, ⟨(some 22), .call k_slices_Clone_byte_byte [(.tmp 21)], none⟩⟩, .any),
              (⟨6, [2, 5, 1, 4, 3], false, ⟨(some 23), .build [(.int .i64 0), (.slice none 0 0)] [(0, 1, (.tmp 19)), (1, 1, (.tmp 22))], none⟩⟩, .any),
              (⟨7, [6, 2, 5, 1, 4, 3], false, ⟨(some 24), .buildSlice 1 2 [(.int .i64 0), (.slice none 0 0)] [(0, 2, (.tmp 23))], none⟩⟩, .any),
              (⟨8, [0, 7, 5, 6, 2, 1, 4, 3], true, ⟨(some 25), .append 32 2 (.tmp 17) (.tmp 24), none⟩⟩, .any),
              (⟨9, [8, 0, 1, 2, 3, 4, 5, 6, 7], true, ⟨(some 3), .move (.tmp 25), none⟩⟩, .any)]) <|
        .reg [(⟨(some 26), .bin .add (.tmp 13) (.const (.int .i64 1)), none⟩, (.int .i64)),
          (⟨(some 13), .move (.tmp 26), none⟩, (.int .i64))]) <|
  .seq (.reg [(⟨(some 27), .move (.tmp 3), none⟩, .any),
      (⟨(some 2), .move (.tmp 27), none⟩, .any)]) <|
  .ret
def f_sector_Disk_Waiting_L18 (n : Nat) (x1 : Value) (n2 : Nat) (v3 : Value) (v4 : Int) (h5 : Heap) : Option (((Value × Int × Unit) × Heap) ⊕ ((Value × Unit) × Heap)) :=
  bif (decide (v4 < (n2 : Int))) then
    ((ixB 65 x1 v4).bind fun q6 =>
    (ldA 65 h5 (some q6)).bind fun cs7 =>
    bnd ((Heap.new h5 (.cells [(.int .i64 0), (.int .u8 0), (.int .u8 0), (.int .u8 0), (.int .u8 0), (.int .u8 0), (.int .u8 0), (.int .u8 0), (.int .u8 0), (.int .u8 0), (.int .u8 0), (.int .u8 0), (.int .u8 0), (.int .u8 0), (.int .u8 0), (.int .u8 0), (.int .u8 0), (.int .u8 0), (.int .u8 0), (.int .u8 0), (.int .u8 0), (.int .u8 0), (.int .u8 0), (.int .u8 0), (.int .u8 0), (.int .u8 0), (.int .u8 0), (.int .u8 0), (.int .u8 0), (.int .u8 0), (.int .u8 0), (.int .u8 0), (.int .u8 0), (.int .u8 0), (.int .u8 0), (.int .u8 0), (.int .u8 0), (.int .u8 0), (.int .u8 0), (.int .u8 0), (.int .u8 0), (.int .u8 0), (.int .u8 0), (.int .u8 0), (.int .u8 0), (.int .u8 0), (.int .u8 0), (.int .u8 0), (.int .u8 0), (.int .u8 0), (.int .u8 0), (.int .u8 0), (.int .u8 0), (.int .u8 0), (.int .u8 0), (.int .u8 0), (.int .u8 0), (.int .u8 0), (.int .u8 0), (.int .u8 0), (.int .u8 0), (.int .u8 0), (.int .u8 0), (.int .u8 0), (.int .u8 0)] false 0))) fun h8 =>
    (stB 65 (.agg ⟨cs7⟩) h8 (some (nwA h5))).bind fun h9 =>
    (ldT (.int .i64) h9 (some (fa (nwA h5) 0))).bind fun x10 =>
    (sliceArrK h9 64 1 none none (.pointer (some (fa (nwA h5) 1)))).bind fun p11 =>
    (f_slices_Clone_byte_byte n p11.1 (hid h9 [] ((Addr.block (fa (nwA h5) 0)) :: []))).bind fun p12 =>
    bnd (Heap.putBack p12.2 h9 ([] ++ ((Addr.block (fa (nwA h5) 0)) :: []))) fun h13 =>
    (fillL [(.int .i64 0), (.slice none 0 0)] [(0, 1, (.int .i64 x10)), (1, 1, p12.1.1)]).bind fun cs14 =>
    (fillL [(.int .i64 0), (.slice none 0 0)] [(0, 2, (.agg ⟨cs14⟩))]).bind fun cs15 =>
    bnd ((Heap.new h13 (.cells cs15 false 2))) fun h16 =>
    (appendK h16 32 2 v3 (.slice (some ⟨Heap.next h13, 0, some 0⟩) 1 1)).bind fun p17 =>
    some (.inl ((p17.1, ((IntKind.i64.wrap (v4 + 1)), ())), p17.2)))
  else
    (Option.map Sum.inr (bif !isTuple v3 then
      (some ((v3, ()), h5))
    else
      (none)))
noncomputable def sf_sector_Disk_Waiting (n : Nat) : Sf := sfOf [(k_slices_Clone_byte_byte, s_slices_Clone_byte_byte n)]
noncomputable def it_sector_Disk_Waiting (n : Nat) : It := itOf []
def f_sector_Disk_Waiting (n : Nat) (u0 : Option Addr) (h : Heap) : Option ((Value × Unit) × Heap) :=
  bif (Option.isNone u0) then
    (some (((.slice none 0 0), ()), h))
  else
    ((u0).bind fun q0 =>
    (ldT .any h (some (fa q0 1))).bind fun x1 =>
    (lenB x1).bind fun n2 =>
    loopT (fun a => f_sector_Disk_Waiting_L18 n x1 n2 a.1.1 a.1.2.1 a.2) n (((.slice none 0 0), (0, ())), h))
def rs_sector_Disk_Waiting : Rs := [(.tmp 2, .any)]
def ps_sector_Disk_Waiting : List Ty := [.ptr]
theorem e_sector_Disk_Waiting (n : Nat) (u0 : Option Addr) (h : Heap) : f_sector_Disk_Waiting n u0 h = fB (sf_sector_Disk_Waiting n) (it_sector_Disk_Waiting n) n c2_sector_Disk_Waiting rs_sector_Disk_Waiting ps_sector_Disk_Waiting (u0, ()) h := by kernel_rfl
noncomputable def s_sector_Disk_Waiting (n : Nat) : Sf1 := mkSf ps_sector_Disk_Waiting rs_sector_Disk_Waiting fun a h => f_sector_Disk_Waiting n a.1 h

/- (*wicket/sector.Disk).Copy -/
def c2_sector_Disk_Copy : C2 :=
  .seq (.reg [(⟨(some 2), .move (.const (.pointer none)), none⟩, .ptr)]) <|
  .seq (.seq (.reg [(⟨(some 3), .move (.tmp 0), none⟩, .ptr),
        (⟨(some 4), .eqv false .ptr (.tmp 3) (.const (.pointer none)), none⟩, .bool)]) <|
    .cond (.tmp 4)
      (.seq (.reg [(⟨(some 2), .move (.const (.pointer none)), none⟩, .ptr)]) <|
      .ret)
      (.skip)) <|
  .seq (.regd [(⟨0, [], false, ⟨(some 5), .move (.tmp 0), none⟩⟩, .ptr),
      (⟨1, [0], false, ⟨(some 6), .nilCheck (.tmp 5), none⟩⟩, .ptr),
      (⟨2, [1, 0], false, ⟨(some 7), .fieldAddr 0 (.tmp 6), none⟩⟩, .ptr),
      (⟨3, [2, 1, 0], false, ⟨(some 8), .load false 1 (.tmp 7), none⟩⟩, .any),
      (⟨5, [], false, ⟨(some 10), .move (.tmp 0), none⟩⟩, .ptr),
      (⟨6, [5], false, ⟨(some 11), .nilCheck (.tmp 10), none⟩⟩, .ptr),
      (⟨7, [6, 5], false, ⟨(some 12), .fieldAddr 1 (.tmp 11), none⟩⟩, .ptr),
      (⟨8, [7, 6, 5], false, ⟨(some 13), .load false 1 (.tmp 12), none⟩⟩, .any),
      (⟨4, [3, 2, 1, 0], true, ⟨(some 9), .call k_slices_Clone_sector_data_sector_data [(.tmp 8)], none⟩⟩, .any),
      (⟨9, [8, 4, 7, 6, 5, 3, 2, 1, 0], true, ⟨(some 14), .call k_slices_Clone_sector_waiting_sector_waiting [(.tmp 13)], none⟩⟩, .any),
      (⟨10, [4, 9, 3, 2, 1, 0, 8, 7, 6, 5], false, ⟨(some 15), .build [(.slice none 0 0), (.slice none 0 0)] [(0, 1, (.tmp 9)), (1, 1, (.tmp 14))], none⟩⟩, .any),
      (⟨11, [10, 4, 9, 3, 2, 1, 0, 8, 7, 6, 5], false, ⟨(some 16), .box (.tmp 15), none⟩⟩, .ptr),
      (⟨12, [11, 9, 0, 1, 2, 3, 4, 5, 6, 7, 8, 10], false, ⟨(some 2), .move (.tmp 16), none⟩⟩, .ptr)]) <|
  .ret
noncomputable def sf_sector_Disk_Copy (n : Nat) : Sf := sfOf [(k_slices_Clone_sector_data_sector_data, s_slices_Clone_sector_data_sector_data n), (k_slices_Clone_sector_waiting_sector_waiting, s_slices_Clone_sector_waiting_sector_waiting n)]
noncomputable def it_sector_Disk_Copy (n : Nat) : It := itOf []
def f_sector_Disk_Copy (n : Nat) (u0 : Option Addr) (h : Heap) : Option ((Option Addr × Unit) × Heap) :=
  bif (Option.isNone u0) then
    (some ((none, ()), h))
  else
    ((u0).bind fun q0 =>
    (ldT .any h (some (fa q0 0))).bind fun x1 =>
    (u0).bind fun q2 =>
    (ldT .any h (some (fa q2 1))).bind fun x3 =>
    (f_slices_Clone_sector_data_sector_data n x1 (hid h [] ((Addr.block (fa q2 1)) :: []))).bind fun p4 =>
    bnd (Heap.putBack p4.2 h ([] ++ ((Addr.block (fa q2 1)) :: []))) fun h5 =>
    (f_slices_Clone_sector_waiting_sector_waiting n x3 h5).bind fun p6 =>
    (fillL [(.slice none 0 0), (.slice none 0 0)] [(0, 1, p4.1.1), (1, 1, p6.1.1)]).bind fun cs7 =>
    bif (cs7 : List Value).all isCell then
      (bnd ((Heap.new p6.2 (.cells cs7 false 0))) fun h8 =>
      some (((some (nwA p6.2)), ()), h8))
    else
      (none))
def rs_sector_Disk_Copy : Rs := [(.tmp 2, .ptr)]
def ps_sector_Disk_Copy : List Ty := [.ptr]
theorem e_sector_Disk_Copy (n : Nat) (u0 : Option Addr) (h : Heap) : f_sector_Disk_Copy n u0 h = fB (sf_sector_Disk_Copy n) (it_sector_Disk_Copy n) n c2_sector_Disk_Copy rs_sector_Disk_Copy ps_sector_Disk_Copy (u0, ()) h := by kernel_rfl
noncomputable def s_sector_Disk_Copy (n : Nat) : Sf1 := mkSf ps_sector_Disk_Copy rs_sector_Disk_Copy fun a h => f_sector_Disk_Copy n a.1 h

/- (*wicket/sector.Disk).Write -/
def c2_sector_Disk_Write : C2 :=
  .seq (.reg [(⟨(some 6), .move (.const (.int .i64 0)), none⟩, (.int .i64))]) <|
  .seq (.seq (.reg [(⟨(some 8), .move (.tmp 0), none⟩, .ptr),
        (⟨(some 9), .move (.tmp 1), none⟩, (.int .i64)),
        (⟨(some 10), .call k_sector_Disk_asked [(.tmp 8), (.tmp 9)], none⟩, (.int .i64)),
        (⟨(some 7), .move (.tmp 10), none⟩, (.int .i64))]) <|
    .seq (.reg [(⟨(some 11), .move (.tmp 7), none⟩, (.int .i64)),
        (⟨(some 12), .bin .neq (.tmp 11) (.const (.int .i64 0)), none⟩, .bool)]) <|
    .cond (.tmp 12)
      (.seq (.reg [(⟨(some 13), .move (.tmp 7), none⟩, (.int .i64)),
          (⟨(some 6), .move (.tmp 13), none⟩, (.int .i64))]) <|
      .ret)
      (.skip)) <|
  .seq (.seq (.reg [(⟨(some 14), .move (.tmp 2), none⟩, .any),
        (⟨(some 15), .lenS (.tmp 14), none⟩, (.int .i64)),
        (⟨(some 16), .bin .neq (.tmp 15) (.const (.int .i64 64)), none⟩, .bool)]) <|
    .cond (.tmp 16)
      (.seq (.reg [(⟨(some 6), .move (.const (.int .i64 2)), none⟩, (.int .i64))]) <|
      .ret)
      (.skip)) <|
  .seq (.regd [(⟨0, [], false, ⟨(some 17), .move (.tmp 0), none⟩⟩, .ptr),
      (⟨1, [], false, ⟨(some 18), .move (.tmp 0), none⟩⟩, .ptr),
      (⟨2, [1], false, ⟨(some 19), .nilCheck (.tmp 18), none⟩⟩, .ptr),
      (⟨3, [2, 1], false, ⟨(some 20), .fieldAddr 1 (.tmp 19), none⟩⟩, .ptr),
      (⟨4, [3, 2, 1], false, ⟨(some 21), .load false 1 (.tmp 20), none⟩⟩, .any),
      (⟨5, [], false, ⟨(some 22), .move (.tmp 1), none⟩⟩, (.int .i64)),
      (⟨6, [], false, ⟨(some 23), .move (.tmp 2), none⟩⟩, .any),
      (⟨7, [6], false, ⟨(some 24), .arrAt 64 (.tmp 23), none⟩⟩, .ptr),
      (⟨8, [7, 6], false, ⟨(some 25), .load true 64 (.tmp 24), none⟩⟩, .any),
      (⟨9, [5, 8, 7, 6], false, ⟨(some 26), .build [(.int .i64 0), (.int .u8 0), (.int .u8 0), (.int .u8 0), (.int .u8 0), (.int .u8 0), (.int .u8 0), (.int .u8 0), (.int .u8 0), (.int .u8 0), (.int .u8 0), (.int .u8 0), (.int .u8 0), (.int .u8 0), (.int .u8 0), (.int .u8 0), (.int .u8 0), (.int .u8 0), (.int .u8 0), (.int .u8 0), (.int .u8 0), (.int .u8 0), (.int .u8 0), (.int .u8 0), (.int .u8 0), (.int .u8 0), (.int .u8 0), (.int .u8 0), (.int .u8 0), (.int .u8 0), (.int .u8 0), (.int .u8 0), (.int .u8 0), (.int .u8 0), (.int .u8 0), (.int .u8 0), (.int .u8 0), (.int .u8 0), (.int .u8 0), (.int .u8 0), (.int .u8 0), (.int .u8 0), (.int .u8 0), (.int .u8 0), (.int .u8 0), (.int .u8 0), (.int .u8 0), (.int .u8 0), (.int .u8 0), (.int .u8 0), (.int .u8 0), (.int .u8 0), (.int .u8 0), (.int .u8 0), (.int .u8 0), (.int .u8 0), (.int .u8 0), (.int .u8 0), (.int .u8 0), (.int .u8 0), (.int .u8 0), (.int .u8 0), (.int .u8 0), (.int .u8 0), (.int .u8 0)] [(0, 1, (.tmp 22)), (1, 64, (.tmp 25))], none⟩⟩, .any),
      (⟨10, [9, 5, 8, 7, 6], false, ⟨(some 27), .buildSlice 1 65 [(.int .i64 0), (.int .u8 0), (.int .u8 0), (.int .u8 0), (.int .u8 0), (.int .u8 0), (.int .u8 0), (.int .u8 0), (.int .u8 0), (.int .u8 0), (.int .u8 0), (.int .u8 0), (.int .u8 0), (.int .u8 0), (.int .u8 0), (.int .u8 0), (.int .u8 0), (.int .u8 0), (.int .u8 0), (.int .u8 0), (.int .u8 0), (.int .u8 0), (.int .u8 0), (.int .u8 0), (.int .u8 0), (.int .u8 0), (.int .u8 0), (.int .u8 0), (.int .u8 0), (.int .u8 0), (.int .u8 0), (.int .u8 0), (.int .u8 0), (.int .u8 0), (.int .u8 0), (.int .u8 0), (.int .u8 0), (.int .u8 0), (.int .u8 0), (.int .u8 0), (.int .u8 0), (.int .u8 0), (.int .u8 0), (.int .u8 0), (.int .u8 0), (.int .u8 0), (.int .u8 0), (.int .u8 0), (.int .u8 0), (.int .u8 0), (.int .u8 0), (.int .u8 0), (.int .u8 0), (.int .u8 0), (.int .u8 0), (.int .u8 0), (.int .u8 0), (.int .u8 0), (.int .u8 0), (.int .u8 0), (.int .u8 0), (.int .u8 0), (.int .u8 0), (.int .u8 0), (.int .u8 0)] [(0, 65, (.tmp 26))], none⟩⟩, .any),
      (⟨11, [4, 10, 3, 2, 1, 9, 5, 8, 7, 6], true, ⟨(some 28), .append 72 65 (.tmp 21) (.tmp 27), none⟩⟩, .any),
      (⟨12, [0, 1, 2, 3, 4, 5, 6, 7, 8, 9, 10, 11], false, ⟨(some 29), .nilCheck (.tmp 17), none⟩⟩, .ptr),
      (⟨13, [12, 0, 1, 2, 3, 4, 5, 6, 7, 8, 9, 10, 11], false, ⟨(some 30), .fieldAddr 1 (.tmp 29), none⟩⟩, .ptr),
      (⟨14, [13, 11, 0, 1, 2, 3, 4, 5, 6, 7, 8, 9, 10, 12], true, ⟨none, .store 1 (.tmp 30) (.tmp 28), none⟩⟩, .any)]) <|
  .seq (.reg [(⟨(some 6), .move (.const (.int .i64 0)), none⟩, (.int .i64))]) <|
  .ret
noncomputable def sf_sector_Disk_Write (n : Nat) : Sf := sfOf [(k_sector_Disk_asked, s_sector_Disk_asked n)]
noncomputable def it_sector_Disk_Write (n : Nat) : It := itOf []
def f_sector_Disk_Write (n : Nat) (u0 : Option Addr) (u1 : Int) (u2 : Value) (h : Heap) : Option ((Int × Unit) × Heap) :=
  (f_sector_Disk_asked n u0 u1 h).bind fun p0 =>
  bif (!decide (p0.1.1 = 0)) then
    (some ((p0.1.1, ()), p0.2))
  else
    ((lenB u2).bind fun n1 =>
    bif (!decide ((n1 : Int) = 64)) then
      (some ((2, ()), p0.2))
    else
      ((u0).bind fun q2 =>
      (ldT .any p0.2 (some (fa q2 1))).bind fun x3 =>
      (arrB p0.2 64 u2).bind fun q4 =>
      (ldA 64 p0.2 q4).bind fun cs5 =>
      (fillL [(.int .i64 0), (.int .u8 0), (.int .u8 0), (.int .u8 0), (.int .u8 0), (.int .u8 0), (.int .u8 0), (.int .u8 0), (.int .u8 0), (.int .u8 0), (.int .u8 0), (.int .u8 0), (.int .u8 0), (.int .u8 0), (.int .u8 0), (.int .u8 0), (.int .u8 0), (.int .u8 0), (.int .u8 0), (.int .u8 0), (.int .u8 0), (.int .u8 0), (.int .u8 0), (.int .u8 0), (.int .u8 0), (.int .u8 0), (.int .u8 0), (.int .u8 0), (.int .u8 0), (.int .u8 0), (.int .u8 0), (.int .u8 0), (.int .u8 0), (.int .u8 0), (.int .u8 0), (.int .u8 0), (.int .u8 0), (.int .u8 0), (.int .u8 0), (.int .u8 0), (.int .u8 0), (.int .u8 0), (.int .u8 0), (.int .u8 0), (.int .u8 0), (.int .u8 0), (.int .u8 0), (.int .u8 0), (.int .u8 0), (.int .u8 0), (.int .u8 0), (.int .u8 0), (.int .u8 0), (.int .u8 0), (.int .u8 0), (.int .u8 0), (.int .u8 0), (.int .u8 0), (.int .u8 0), (.int .u8 0), (.int .u8 0), (.int .u8 0), (.int .u8 0), (.int .u8 0), (.int .u8 0)] [(0, 1, (.int .i64 u1)), (1, 64, (.agg ⟨cs5⟩))]).bind fun cs6 =>
      (fillL [(.int .i64 0), (.int .u8 0), (.int .u8 0), (.int .u8 0), (.int .u8 0), (.int .u8 0), (.int .u8 0), (.int .u8 0), (.int .u8 0), (.int .u8 0), (.int .u8 0), (.int .u8 0), (.int .u8 0), (.int .u8 0), (.int .u8 0), (.int .u8 0), (.int .u8 0), (.int .u8 0), (.int .u8 0), (.int .u8 0), (.int .u8 0), (.int .u8 0), (.int .u8 0), (.int .u8 0), (.int .u8 0), (.int .u8 0), (.int .u8 0), (.int .u8 0), (.int .u8 0), (.int .u8 0), (.int .u8 0), (.int .u8 0), (.int .u8 0), (.int .u8 0), (.int .u8 0), (.int .u8 0), (.int .u8 0), (.int .u8 0), (.int .u8 0), (.int .u8 0), (.int .u8 0), (.int .u8 0), (.int .u8 0), (.int .u8 0), (.int .u8 0), (.int .u8 0), (.int .u8 0), (.int .u8 0), (.int .u8 0), (.int .u8 0), (.int .u8 0), (.int .u8 0), (.int .u8 0), (.int .u8 0), (.int .u8 0), (.int .u8 0), (.int .u8 0), (.int .u8 0), (.int .u8 0), (.int .u8 0), (.int .u8 0), (.int .u8 0), (.int .u8 0), (.int .u8 0), (.int .u8 0)] [(0, 65, (.agg ⟨cs6⟩))]).bind fun cs7 =>
      bnd ((Heap.new p0.2 (.cells cs7 false 65))) fun h8 =>
      (appendK h8 72 65 x3 (.slice (some ⟨Heap.next p0.2, 0, some 0⟩) 1 1)).bind fun p9 =>
      (u0).bind fun q10 =>
      (stB 1 p9.1 p9.2 (some (fa q10 1))).bind fun h11 =>
      some ((0, ()), h11)))
def rs_sector_Disk_Write : Rs := [(.tmp 6, (.int .i64))]
def ps_sector_Disk_Write : List Ty := [.ptr, (.int .i64), .any]
theorem e_sector_Disk_Write (n : Nat) (u0 : Option Addr) (u1 : Int) (u2 : Value) (h : Heap) : f_sector_Disk_Write n u0 u1 u2 h = fB (sf_sector_Disk_Write n) (it_sector_Disk_Write n) n c2_sector_Disk_Write rs_sector_Disk_Write ps_sector_Disk_Write (u0, (u1, (u2, ()))) h := by kernel_rfl
noncomputable def s_sector_Disk_Write (n : Nat) : Sf1 := mkSf ps_sector_Disk_Write rs_sector_Disk_Write fun a h => f_sector_Disk_Write n a.1 a.2.1 a.2.2.1 h

/- slices.Backward[[]wicket/sector.waiting,wicket/sector.waiting] -/
def c2_slices_Backward_sector_waiting_sector_waiting : C2 :=
  .seq (.reg [(⟨(some 1), .box (.tmp 0), none⟩, .ptr),
      (⟨(some 2), .move (.const .nilFunc), none⟩, (.fn k_slices_Backward_sector_waiting_sector_waiting_1 1))]) <|
  .seq (.reg [(⟨(some 3), .makeFunc k_slices_Backward_sector_waiting_sector_waiting_1 [] [(.tmp 1)], none⟩, (.fn k_slices_Backward_sector_waiting_sector_waiting_1 1)),
      (⟨(some 2), .move (.tmp 3), none⟩, (.fn k_slices_Backward_sector_waiting_sector_waiting_1 1))]) <|
  .ret
noncomputable def sf_slices_Backward_sector_waiting_sector_waiting (n : Nat) : Sf := sfOf []
noncomputable def it_slices_Backward_sector_waiting_sector_waiting (n : Nat) : It := itOf []
def f_slices_Backward_sector_waiting_sector_waiting (n : Nat) (u0 : Value) (h : Heap) : Option ((Ptrs 1 × Unit) × Heap) :=
  bif (cellsOf u0).all isCell then
    (bnd ((Heap.new h (.cells (cellsOf u0) false 0))) fun h0 =>
    some ((((some (nwA h)), ()), ()), h0))
  else
    (none)
def rs_slices_Backward_sector_waiting_sector_waiting : Rs := [(.tmp 2, (.fn k_slices_Backward_sector_waiting_sector_waiting_1 1))]
def ps_slices_Backward_sector_waiting_sector_waiting : List Ty := [.any]
theorem e_slices_Backward_sector_waiting_sector_waiting (n : Nat) (u0 : Value) (h : Heap) : f_slices_Backward_sector_waiting_sector_waiting n u0 h = fB (sf_slices_Backward_sector_waiting_sector_waiting n) (it_slices_Backward_sector_waiting_sector_waiting n) n c2_slices_Backward_sector_waiting_sector_waiting rs_slices_Backward_sector_waiting_sector_waiting ps_slices_Backward_sector_waiting_sector_waiting (u0, ()) h := by kernel_rfl
noncomputable def s_slices_Backward_sector_waiting_sector_waiting (n : Nat) : Sf1 := mkSf ps_slices_Backward_sector_waiting_sector_waiting rs_slices_Backward_sector_waiting_sector_waiting fun a h => f_slices_Backward_sector_waiting_sector_waiting n a.1 h

/- wicket/wicketlaw04.put -/
def c2_wicketlaw04_put : C2 :=
  .seq (.reg [(⟨(some 4), .move (.const (.bool false)), none⟩, .bool)]) <|
  .seq (.seq (.reg [(⟨(some 9), .move (.tmp 1), none⟩, .any),
        (⟨(some 10), .lenS (.tmp 9), none⟩, (.int .i64)),
        (⟨(some 11), .move (.const (.int .i64 0)), none⟩, (.int .i64))]) <|
    .block 0 <|
      .loop [(11, (.int .i64))] <|
        .seq (.reg [(⟨(some 12), .bin .lss (.tmp 11) (.tmp 10), none⟩, .any)]) <|
        .seq (.cond (.tmp 12)
            (.skip)
            (.exit 0)) <|
        .seq (.cut [] <|
            .block 1 <|
              .seq (.reg [(⟨(some 13), .move (.tmp 11), none⟩, (.int .i64)),
                  (⟨(some 14), .idxSlice 1 (.tmp 9) (.tmp 11), none⟩, .ptr),
                  (⟨(some 15), .load false 1 (.tmp 14), none⟩, (.int .i64)),
                  (⟨(some 5), .move (.tmp 13), none⟩, (.int .i64)),
                  (⟨(some 6), .move (.tmp 15), none⟩, (.int .i64))]) <|
              .seq (.reg [(⟨(some 16), .makeSlice 1 1 [(.int .u8 0)] (.const (.int .i64 64)) (.const (.int .i64 64)), none⟩, .any),
                  (⟨(some 7), .move (.tmp 16), none⟩, .any)]) <|
              .seq (.cutn [] <|
                  .seq (.reg [(⟨(some 17), .move (.tmp 7), none⟩, .any),
                      (⟨(some 18), .lenS (.tmp 17), none⟩, (.int .i64)),
                      (⟨(some 19), .move (.const (.int .i64 0)), none⟩, (.int .i64))]) <|
                  .block 2 <|
                    .loop [(19, (.int .i64))] <|
                      .seq (.reg [(⟨(some 20), .bin .lss (.tmp 19) (.tmp 18), none⟩, .any)]) <|
                      .seq (.cond (.tmp 20)
                          (.skip)
                          (.exit 2)) <|
                      .seq (.block 3 <|
                          .seq (.reg [(⟨(some 21), .move (.tmp 19), none⟩, (.int .i64)),
                              (⟨(some 8), .move (.tmp 21), none⟩, (.int .i64))]) <|
                          .reg [(⟨(some 22), .move (.tmp 7), none⟩, .any),
                            (⟨(some 23), .move (.tmp 8), none⟩, (.int .i64)),
                            (⟨(some 24), .move (.tmp 5), none⟩, (.int .i64)),
                            (⟨(some 25), .bin .add (.tmp 24) (.const (.int .i64 1)), none⟩, (.int .i64)),
                            (⟨(some 26), .conv .u8 (.tmp 25), none⟩, (.int .u8)),
                            (⟨(some 27), .idxSlice 1 (.tmp 22) (.tmp 23), none⟩, .ptr),
                            (⟨none, .store 1 (.tmp 27) (.tmp 26), none⟩, .any)]) <|
                      .reg [(⟨(some 28), .bin .add (.tmp 19) (.const (.int .i64 1)), none⟩, (.int .i64)),
                        (⟨(some 19), .move (.tmp 28), none⟩, (.int .i64))]) <|
              .seq (.reg [(⟨(some 29), .move (.tmp 0), none⟩, .ptr),
                  (⟨(some 30), .move (.tmp 6), none⟩, (.int .i64)),
                  (⟨(some 31), .bin .rem (.tmp 30) (.const (.int .i64 8)), none⟩, (.int .i64)),
                  (⟨(some 32), .bin .add (.tmp 31) (.const (.int .i64 8)), none⟩, (.int .i64)),
                  (⟨(some 33), .bin .rem (.tmp 32) (.const (.int .i64 8)), none⟩, (.int .i64)),
                  (⟨(some 34), .move (.tmp 7), none⟩, .any),
                  (⟨(some 35), .call k_sector_Disk_Write [(.tmp 29), (.tmp 33), (.tmp 34)], none⟩, (.int .i64)),
                  (⟨(some 36), .bin .neq (.tmp 35) (.const (.int .i64 0)), none⟩, .bool)]) <|
              .cond (.tmp 36)
                (.seq (.reg [(⟨(some 4), .move (.const (.bool false)), none⟩, .bool)]) <|
                .ret)
                (.skip)) <|
        .reg [(⟨(some 37), .bin .add (.tmp 11) (.const (.int .i64 1)), none⟩, (.int .i64)),
          (⟨(some 11), .move (.tmp 37), none⟩, (.int .i64))]) <|
  .seq (.reg [(⟨(some 4), .move (.const (.bool true)), none⟩, .bool)]) <|
  .ret
def f_wicketlaw04_put_L13 (n : Nat) (v1 : Int) (p6 : (Value × AObj)) (n8 : Nat) (v9 : Int) (h10 : Heap) : Option (((Int × Unit) × Heap) ⊕ ((Unit) × Heap)) :=
  bif (decide (v9 < (n8 : Int))) then
    ((ixB 1 p6.1 v9).bind fun q11 =>
    (stB 1 (.int .u8 (IntKind.u8.wrap ((IntKind.i64.wrap (v1 + 1))))) h10 (some q11)).bind fun h12 =>
    some (.inl (((IntKind.i64.wrap (v9 + 1)), ()), h12)))
  else
    (some (.inr ((), h10)))
def f_wicketlaw04_put_C16 (n : Nat) (u1 : Value) (u0 : Option Addr) (v1 : Int) (h3 : Heap) : Option (((Unit) × Heap) ⊕ (((Int × Unit) × Heap) ⊕ ((Bool × Unit) × Heap))) :=
  (ixB 1 u1 v1).bind fun q4 =>
  (ldT (.int .i64) h3 (some q4)).bind fun x5 =>
  (mkSl (Heap.next h3) 1 1 [(.int .u8 0)] (.int .i64 64) (.int .i64 64)).bind fun p6 =>
  bnd ((Heap.new h3 (p6.2))) fun h7 =>
  (((lenB p6.1).bind fun n8 =>
    loopT (fun a => f_wicketlaw04_put_L13 n v1 p6 n8 a.1.1 a.2) n ((0, ()), h7)) : Option ((Unit) × Heap)).bind fun a14 =>
  (f_sector_Disk_Write n u0 (Int.tmod (IntKind.i64.wrap ((Int.tmod x5 8) + 8)) 8) p6.1 a14.2).bind fun p15 =>
  bif (!decide (p15.1.1 = 0)) then
    (some (.inr (.inr ((false, ()), p15.2))))
  else
    (some (.inl ((), p15.2)))
def f_wicketlaw04_put_L18 (n : Nat) (u1 : Value) (u0 : Option Addr) (n0 : Nat) (v1 : Int) (h2 : Heap) : Option (((Int × Unit) × Heap) ⊕ ((Bool × Unit) × Heap)) :=
  bif (decide (v1 < (n0 : Int))) then
    (thenB (f_wicketlaw04_put_C16 n u1 u0 v1 (h2)) fun a17 =>
    some (.inl (((IntKind.i64.wrap (v1 + 1)), ()), a17.2)))
  else
    (some (.inr ((true, ()), h2)))
noncomputable def sf_wicketlaw04_put (n : Nat) : Sf := sfOf [(k_sector_Disk_Write, s_sector_Disk_Write n)]
noncomputable def it_wicketlaw04_put (n : Nat) : It := itOf []
def f_wicketlaw04_put (n : Nat) (u0 : Option Addr) (u1 : Value) (h : Heap) : Option ((Bool × Unit) × Heap) :=
  (lenB u1).bind fun n0 =>
  loopT (fun a => f_wicketlaw04_put_L18 n u1 u0 n0 a.1.1 a.2) n ((0, ()), h)
def rs_wicketlaw04_put : Rs := [(.tmp 4, .bool)]
def ps_wicketlaw04_put : List Ty := [.ptr, .any]
theorem e_wicketlaw04_put (n : Nat) (u0 : Option Addr) (u1 : Value) (h : Heap) : f_wicketlaw04_put n u0 u1 h = fB (sf_wicketlaw04_put n) (it_wicketlaw04_put n) n c2_wicketlaw04_put rs_wicketlaw04_put ps_wicketlaw04_put (u0, (u1, ())) h := by kernel_rfl
noncomputable def s_wicketlaw04_put (n : Nat) : Sf1 := mkSf ps_wicketlaw04_put rs_wicketlaw04_put fun a h => f_wicketlaw04_put n a.1 a.2.1 h

/- (*wicket/sector.Disk).Read -/
def c2_sector_Disk_Read : C2 :=
  .seq (.reg [(⟨(some 3), .box (.tmp 1), none⟩, .ptr),
      (⟨(some 4), .alloc [(.slice none 0 0)], none⟩, .ptr),
      (⟨(some 5), .alloc [(.int .i64 0)], none⟩, .ptr)]) <|
  .seq (.seq (.reg [(⟨(some 9), .move (.tmp 0), none⟩, .ptr),
        (⟨(some 10), .load false 1 (.tmp 3), none⟩, (.int .i64)),
        (⟨(some 11), .call k_sector_Disk_asked [(.tmp 9), (.tmp 10)], none⟩, (.int .i64)),
        (⟨(some 6), .move (.tmp 11), none⟩, (.int .i64))]) <|
    .seq (.reg [(⟨(some 12), .move (.tmp 6), none⟩, (.int .i64)),
        (⟨(some 13), .bin .neq (.tmp 12) (.const (.int .i64 0)), none⟩, .bool)]) <|
    .cond (.tmp 13)
      (.seq (.reg [(⟨(some 14), .move (.tmp 6), none⟩, (.int .i64)),
          (⟨none, .store 1 (.tmp 4) (.const (.slice none 0 0)), none⟩, .any),
          (⟨none, .store 1 (.tmp 5) (.tmp 14), none⟩, .any)]) <|
      .ret)
      (.skip)) <|
  .seq (.seq (.reg [(⟨(some 15), .move (.tmp 0), none⟩, .ptr),
        (⟨(some 16), .nilCheck (.tmp 15), none⟩, .ptr),
        (⟨(some 17), .fieldAddr 1 (.tmp 16), none⟩, .ptr),
        (⟨(some 18), .load false 1 (.tmp 17), none⟩, .any),
        (⟨(some 19), .call k_slices_Backward_sector_waiting_sector_waiting [(.tmp 18)], none⟩, (.fn k_slices_Backward_sector_waiting_sector_waiting_1 1))]) <|
    .block 0 <|
      .range (.tmp 19) [20, 21] [.ret]
        (.reg [(⟨(some 8), .alloc [(.int .i64 0), (.int .u8 0), (.int .u8 0), (.int .u8 0), (.int .u8 0), (.int .u8 0), (.int .u8 0), (.int .u8 0), (.int .u8 0), (.int .u8 0), (.int .u8 0), (.int .u8 0), (.int .u8 0), (.int .u8 0), (.int .u8 0), (.int .u8 0), (.int .u8 0), (.int .u8 0), (.int .u8 0), (.int .u8 0), (.int .u8 0), (.int .u8 0), (.int .u8 0), (.int .u8 0), (.int .u8 0), (.int .u8 0), (.int .u8 0), (.int .u8 0), (.int .u8 0), (.int .u8 0), (.int .u8 0), (.int .u8 0), (.int .u8 0), (.int .u8 0), (.int .u8 0), (.int .u8 0), (.int .u8 0), (.int .u8 0), (.int .u8 0), (.int .u8 0), (.int .u8 0), (.int .u8 0), (.int .u8 0), (.int .u8 0), (.int .u8 0), (.int .u8 0), (.int .u8 0), (.int .u8 0), (.int .u8 0), (.int .u8 0), (.int .u8 0), (.int .u8 0), (.int .u8 0), (.int .u8 0), (.int .u8 0), (.int .u8 0), (.int .u8 0), (.int .u8 0), (.int .u8 0), (.int .u8 0), (.int .u8 0), (.int .u8 0), (.int .u8 0), (.int .u8 0), (.int .u8 0)], none⟩, .ptr),
          (⟨none, .store 65 (.tmp 8) (.tmp 21), none⟩, .any)])
        (.block 1 <|
          .seq (.reg [(⟨(some 22), .fieldAddr 0 (.tmp 8), none⟩, .ptr),
              (⟨(some 23), .load false 1 (.tmp 22), none⟩, (.int .i64)),
              (⟨(some 24), .load false 1 (.tmp 3), none⟩, (.int .i64)),
              (⟨(some 25), .bin .eql (.tmp 23) (.tmp 24), none⟩, .bool)]) <|
          .cond (.tmp 25)
            (.seq (.reg [(⟨(some 26), .fieldAddr 1 (.tmp 8), none⟩, .ptr),
                (⟨(some 27), .sliceArr 64 1 (.tmp 26) none none none, none⟩, .any),
                (⟨(some 28), .call k_slices_Clone_byte_byte [(.tmp 27)], none⟩, .any),
                (⟨none, .store 1 (.tmp 4) (.tmp 28), none⟩, .any),
                (⟨none, .store 1 (.tmp 5) (.const (.int .i64 0)), none⟩, .any)]) <|
            .ret)
            (.skip))) <|
  .seq (.regd [(⟨0, [], false, ⟨(some 29), .move (.tmp 0), none⟩⟩, .ptr),
      (⟨1, [0], false, ⟨(some 30), .nilCheck (.tmp 29), none⟩⟩, .ptr),
      (⟨2, [1, 0], false, ⟨(some 31), .fieldAddr 0 (.tmp 30), none⟩⟩, .ptr),
      (⟨3, [2, 1, 0], false, ⟨(some 32), .load false 1 (.tmp 31), none⟩⟩, .any),
      (⟨4, [], false, ⟨(some 33), .load false 1 (.tmp 3), none⟩⟩, (.int .i64)),
      (⟨5, [3, 4, 2, 1, 0], false, ⟨(some 34), .idxSlice 64 (.tmp 32) (.tmp 33), none⟩⟩, .ptr),
      (⟨6, [5, 3, 4, 2, 1, 0], false, ⟨(some 35), .sliceArr 64 1 (.tmp 34) none none none, none⟩⟩, .any),
      (⟨7, [6, 5, 3, 4, 2, 1, 0], true, ⟨(some 36), .call k_slices_Clone_byte_byte [(.tmp 35)], none⟩⟩, .any),
      (⟨8, [7, 0, 1, 2, 3, 4, 5, 6], true, ⟨none, .store 1 (.tmp 4) (.tmp 36), none⟩⟩, .any),
      (⟨9, [8, 0, 1, 2, 3, 4, 5, 6, 7], true, ⟨none, .store 1 (.tmp 5) (.const (.int .i64 0)), none⟩⟩, .any)]) <|
  .ret
def f_sector_Disk_Read_B23 (n : Nat) (h : Heap) (h0 : Heap) (h1 : Heap) (y12 : Int) (y13 : Value) (v14 : (Heap × Nat)) : Option (Bool × (Heap × Nat)) :=
  bif Nat.beq v14.2 0 then
    (bnd ((Heap.new v14.1 (.cells [(.int .i64 0), (.int .u8 0), (.int .u8 0), (.int .u8 0), (.int .u8 0), (.int .u8 0), (.int .u8 0), (.int .u8 0), (.int .u8 0), (.int .u8 0), (.int .u8 0), (.int .u8 0), (.int .u8 0), (.int .u8 0), (.int .u8 0), (.int .u8 0), (.int .u8 0), (.int .u8 0), (.int .u8 0), (.int .u8 0), (.int .u8 0), (.int .u8 0), (.int .u8 0), (.int .u8 0), (.int .u8 0), (.int .u8 0), (.int .u8 0), (.int .u8 0), (.int .u8 0), (.int .u8 0), (.int .u8 0), (.int .u8 0), (.int .u8 0), (.int .u8 0), (.int .u8 0), (.int .u8 0), (.int .u8 0), (.int .u8 0), (.int .u8 0), (.int .u8 0), (.int .u8 0), (.int .u8 0), (.int .u8 0), (.int .u8 0), (.int .u8 0), (.int .u8 0), (.int .u8 0), (.int .u8 0), (.int .u8 0), (.int .u8 0), (.int .u8 0), (.int .u8 0), (.int .u8 0), (.int .u8 0), (.int .u8 0), (.int .u8 0), (.int .u8 0), (.int .u8 0), (.int .u8 0), (.int .u8 0), (.int .u8 0), (.int .u8 0), (.int .u8 0), (.int .u8 0), (.int .u8 0)] false 0))) fun h15 =>
    (stB 65 y13 h15 (some (nwA v14.1))).bind fun h16 =>
    (ldT (.int .i64) h16 (some (fa (nwA v14.1) 0))).bind fun x17 =>
    (ldT (.int .i64) h16 (some (nwA h))).bind fun x18 =>
    bif (decide (x17 = x18)) then
      ((sliceArrK h16 64 1 none none (.pointer (some (fa (nwA v14.1) 1)))).bind fun p19 =>
      (f_slices_Clone_byte_byte n p19.1 h16).bind fun p20 =>
      (stB 1 p20.1.1 p20.2 (some (nwA h0))).bind fun h21 =>
      (stB 1 (.int .i64 0) h21 (some (nwA h1))).bind fun h22 =>
      some (false, (h22, 1)))
    else
      (some (true, (h16, 0))))
  else none
noncomputable def sf_sector_Disk_Read (n : Nat) : Sf := sfOf [(k_sector_Disk_asked, s_sector_Disk_asked n), (k_slices_Backward_sector_waiting_sector_waiting, s_slices_Backward_sector_waiting_sector_waiting n), (k_slices_Clone_byte_byte, s_slices_Clone_byte_byte n)]
noncomputable def it_sector_Disk_Read (n : Nat) : It := itOf [(k_slices_Backward_sector_waiting_sector_waiting_1, i_slices_Backward_sector_waiting_sector_waiting_1 n)]
def f_sector_Disk_Read (n : Nat) (u0 : Option Addr) (u1 : Int) (h : Heap) : Option ((Value × Int × Unit) × Heap) :=
  bnd ((Heap.new h (.cells [(.int .i64 u1)] false 0))) fun h0 =>
  bnd ((Heap.new h0 (.cells [(.slice none 0 0)] false 0))) fun h1 =>
  bnd ((Heap.new h1 (.cells [(.int .i64 0)] false 0))) fun h2 =>
  (ldT (.int .i64) h2 (some (nwA h))).bind fun x3 =>
  (f_sector_Disk_asked n u0 x3 h2).bind fun p4 =>
  bif (!decide (p4.1.1 = 0)) then
    ((stB 1 (.slice none 0 0) p4.2 (some (nwA h0))).bind fun h5 =>
    (stB 1 (.int .i64 p4.1.1) h5 (some (nwA h1))).bind fun h6 =>
    (ldT .any h6 (some (nwA h0))).bind fun x7 =>
    bif !isTuple x7 then
      ((ldT (.int .i64) h6 (some (nwA h1))).bind fun x8 =>
      some ((x7, (x8, ())), h6))
    else
      (none))
  else
    ((u0).bind fun q9 =>
    (ldT .any p4.2 (some (fa q9 1))).bind fun x10 =>
    (f_slices_Backward_sector_waiting_sector_waiting n x10 p4.2).bind fun p11 =>
    (f_slices_Backward_sector_waiting_sector_waiting_1 (V := (Heap × Nat)) (fun v => v.1) (fun v h => (h, v.2)) (fun a v => f_sector_Disk_Read_B23 n h h0 h1 a.1 a.2.1 v) n p11.1.1.1 ((Heap.hole (Heap.hole p11.2)), 0)).bind fun v24 =>
    bif Nat.beq v24.2 0 then
      ((u0).bind fun q25 =>
      (ldT .any v24.1 (some (fa q25 0))).bind fun x26 =>
      (ldT (.int .i64) v24.1 (some (nwA h))).bind fun x27 =>
      (ixB 64 x26 x27).bind fun q28 =>
      (sliceArrK v24.1 64 1 none none (.pointer (some q28))).bind fun p29 =>
      (f_slices_Clone_byte_byte n p29.1 v24.1).bind fun p30 =>
      (stB 1 p30.1.1 p30.2 (some (nwA h0))).bind fun h31 =>
      (stB 1 (.int .i64 0) h31 (some (nwA h1))).bind fun h32 =>
      (ldT .any h32 (some (nwA h0))).bind fun x33 =>
      bif !isTuple x33 then
        ((ldT (.int .i64) h32 (some (nwA h1))).bind fun x34 =>
        some ((x33, (x34, ())), h32))
      else
        (none))
    else
      (bif Nat.beq v24.2 1 then
        ((ldT .any v24.1 (some (nwA h0))).bind fun x35 =>
        bif !isTuple x35 then
          ((ldT (.int .i64) v24.1 (some (nwA h1))).bind fun x36 =>
          some ((x35, (x36, ())), v24.1))
        else
          (none))
      else
        (none)))
def rs_sector_Disk_Read : Rs := [(.cell false 1 4, .any), (.cell false 1 5, (.int .i64))]
def ps_sector_Disk_Read : List Ty := [.ptr, (.int .i64)]
theorem e_sector_Disk_Read (n : Nat) (u0 : Option Addr) (u1 : Int) (h : Heap) : f_sector_Disk_Read n u0 u1 h = fB (sf_sector_Disk_Read n) (it_sector_Disk_Read n) n c2_sector_Disk_Read rs_sector_Disk_Read ps_sector_Disk_Read (u0, (u1, ())) h := by kernel_rfl
noncomputable def s_sector_Disk_Read (n : Nat) : Sf1 := mkSf ps_sector_Disk_Read rs_sector_Disk_Read fun a h => f_sector_Disk_Read n a.1 a.2.1 h

/- wicket/wicketlaw04.SectorKeeps -/
def c2_wicketlaw04_SectorKeeps : C2 :=
  .seq (.reg [(⟨(some 6), .move (.const (.bool false)), none⟩, .bool)]) <|
  .seq (.seq (.reg [(⟨(some 29), .call k_wicketlaw04_awake [], none⟩, .bool),
        (⟨(some 30), .un .not (.tmp 29), none⟩, .bool)]) <|
    .cond (.tmp 30)
      (.seq (.reg [(⟨(some 6), .move (.const (.bool false)), none⟩, .bool)]) <|
      .ret)
      (.skip)) <|
  .seq (.reg [(⟨(some 31), .move (.tmp 0), none⟩, .any),
      (⟨(some 32), .call k_wicketlaw04_some [(.tmp 31)], none⟩, .any),
      (⟨(some 33), .move (.tmp 1), none⟩, .any),
      (⟨(some 34), .call k_wicketlaw04_some [(.tmp 33)], none⟩, .any),
      (⟨(some 35), .move (.tmp 2), none⟩, .any),
      (⟨(some 36), .call k_wicketlaw04_some [(.tmp 35)], none⟩, .any),
      (⟨(some 0), .move (.tmp 32), none⟩, .any),
      (⟨(some 1), .move (.tmp 34), none⟩, .any),
      (⟨(some 2), .move (.tmp 36), none⟩, .any)]) <|
  .seq (.reg [(⟨(some 38), .call k_sector_New [(.const (.int .i64 8))], none⟩, .any),
      (⟨(some 37), .move (.tmp 38), none⟩, .any),
      (⟨(some 39), .extract (.tmp 37) 0, none⟩, .ptr),
      (⟨(some 40), .extract (.tmp 37) 1, none⟩, (.int .i64)),
      (⟨(some 7), .move (.tmp 39), none⟩, .ptr),
      (⟨(some 8), .move (.tmp 40), none⟩, (.int .i64))]) <|
  .seq (.seq (.cutn [(52, .bool)] <|
        .reg [(⟨(some 41), .move (.tmp 7), none⟩, .ptr),
          (⟨(some 42), .eqv false .ptr (.tmp 41) (.const (.pointer none)), none⟩, .bool),
          (⟨(some 43), .move (.tmp 42), none⟩, .bool),
          (⟨(some 44), .move (.tmp 8), some (43, false)⟩, (.int .i64)),
          (⟨(some 45), .bin .neq (.tmp 44) (.const (.int .i64 0)), some (43, false)⟩, .bool),
          (⟨(some 46), .pick (.tmp 43) (.const (.bool true)) (.tmp 45), none⟩, .bool),
          (⟨(some 47), .move (.tmp 46), none⟩, .bool),
          (⟨(some 48), .move (.tmp 7), some (47, false)⟩, .ptr),
          (⟨(some 49), .move (.tmp 0), some (47, false)⟩, .any),
          (⟨(some 50), .call k_wicketlaw04_put [(.tmp 48), (.tmp 49)], some (47, false)⟩, .bool),
          (⟨(some 51), .un .not (.tmp 50), some (47, false)⟩, .bool),
          (⟨(some 52), .pick (.tmp 47) (.const (.bool true)) (.tmp 51), none⟩, .bool)]) <|
    .cond (.tmp 52)
      (.seq (.reg [(⟨(some 6), .move (.const (.bool false)), none⟩, .bool)]) <|
      .ret)
      (.skip)) <|
  .seq (.reg [(⟨(some 54), .move (.tmp 7), none⟩, .ptr),
      (⟨(some 55), .call k_sector_Disk_Flush [(.tmp 54)], none⟩, .any),
      (⟨(some 53), .move (.tmp 55), none⟩, .any),
      (⟨(some 56), .extract (.tmp 53) 0, none⟩, (.int .i64)),
      (⟨(some 57), .extract (.tmp 53) 1, none⟩, (.int .i64)),
      (⟨(some 9), .move (.tmp 56), none⟩, (.int .i64)),
      (⟨(some 8), .move (.tmp 57), none⟩, (.int .i64))]) <|
  .seq (.reg [(⟨(some 58), .move (.tmp 7), none⟩, .ptr),
      (⟨(some 59), .call k_sector_Disk_Image [(.tmp 58)], none⟩, .any),
      (⟨(some 10), .move (.tmp 59), none⟩, .any)]) <|
  .seq (.seq (.cutn [(92, .bool)] <|
        .regd [(⟨0, [], false, ⟨(some 60), .move (.tmp 8), none⟩⟩, (.int .i64)),
          (⟨1, [0], false, ⟨(some 61), .bin .neq (.tmp 60) (.const (.int .i64 0)), none⟩⟩, .bool),
          (⟨2, [1, 0], false, ⟨(some 62), .move (.tmp 61), none⟩⟩, .bool),
          (⟨3, [2, 1, 0], false, ⟨(some 63), .move (.tmp 9), some (62, false)⟩⟩, (.int .i64)),
          (⟨4, [2, 1, 0], false, ⟨(some 64), .move (.tmp 0), some (62, false)⟩⟩, .any),
          (⟨5, [4, 2, 1, 0], false, ⟨(some 65), .lenS (.tmp 64), some (62, false)⟩⟩, (.int .i64)),
          (⟨6, [3, 5, 2, 1, 0, 4], false, ⟨(some 66), .bin .neq (.tmp 63) (.tmp 65), some (62, false)⟩⟩, .bool),
          (⟨7, [2, 6, 1, 0, 3, 5, 4], false, ⟨(some 67), .pick (.tmp 62) (.const (.bool true)) (.tmp 66), none⟩⟩, .bool),
          (⟨8, [7, 2, 6, 1, 0, 3, 5, 4], false, ⟨(some 68), .move (.tmp 67), none⟩⟩, .bool),
          (⟨9, [8, 7, 2, 6, 1, 0, 3, 5, 4], false, ⟨(some 69), .move (.tmp 10), some (68, false)⟩⟩, .any),
          (⟨10, [9, 8, 7, 2, 6, 1, 0, 3, 5, 4], false, ⟨(some 70), .lenS (.tmp 69), some (68, false)⟩⟩, (.int .i64)),
          (⟨11, [10, 8, 9, 7, 2, 6, 1, 0, 3, 5, 4], false, ⟨(some 71), .bin .neq (.tmp 70) (.const (.int .i64 512)), some (68, false)⟩⟩, .bool),
          (⟨12, [8, 11, 7, 2, 6, 1, 0, 3, 5, 4, 10, 9], false, ⟨(some 72), .pick (.tmp 68) (.const (.bool true)) (.tmp 71), none⟩⟩, .bool),
          (⟨13, [12, 8, 11, 7, 2, 6, 1, 0, 3, 5, 4, 10, 9], false, ⟨(some 73), .move (.tmp 72), none⟩⟩, .bool),
          (⟨14, [13, 12, 8, 11, 7, 2, 6, 1, 0, 3, 5, 4, 10, 9], false, ⟨(some 74), .move (.tmp 7), some (73, false)⟩⟩, .ptr),
          (⟨15, [14, 13, 12, 8, 11, 7, 2, 6, 1, 0, 3, 5, 4, 10, 9], true, ⟨(some 75), .call k_sector_Disk_Waiting [(.tmp 74)], some (73, false)⟩⟩, .any),
          (⟨16, [15, 13, 14, 12, 8, 11, 7, 2, 6, 1, 0, 3, 5, 4, 10, 9], false, ⟨(some 76), .lenS (.tmp 75), some (73, false)⟩⟩, (.int .i64)),
          (⟨17, [16, 13, 15, 14, 12, 8, 11, 7, 2, 6, 1, 0, 3, 5, 4, 10, 9], false, ⟨(some 77), .bin .neq (.tmp 76) (.const (.int .i64 0)), some (73, false)⟩⟩, .bool),
          (⟨18, [13, 17, 12, 8, 11, 7, 2, 6, 1, 0, 3, 5, 4, 10, 9, 16, 15, 14], false, ⟨(some 78), .pick (.tmp 73) (.const (.bool true)) (.tmp 77), none⟩⟩, .bool),
          (⟨19, [18, 15, 13, 17, 12, 8, 11, 7, 2, 6, 1, 0, 3, 5, 4, 10, 9, 16, 14], false, ⟨(some 79), .move (.tmp 78), none⟩⟩, .bool),
          (⟨20, [19, 18, 15, 13, 17, 12, 8, 11, 7, 2, 6, 1, 0, 3, 5, 4, 10, 9, 16, 14], false, ⟨(some 80), .move (.tmp 7), some (79, false)⟩⟩, .ptr),
          (⟨21, [19, 18, 15, 13, 17, 12, 8, 11, 7, 2, 6, 1, 0, 3, 5, 4, 10, 9, 16, 14], false, ⟨(some 81), .move (.tmp 1), some (79, false)⟩⟩, .any),
          (⟨22, [20, 21, 19, 18, 15, 13, 17, 12, 8, 11, 7, 2, 6, 1, 0, 3, 5, 4, 10, 9, 16, 14], true, ⟨(some 82), .call k_wicketlaw04_put [(.tmp 80), (.tmp 81)], some (79, false)⟩⟩, .bool),
          (⟨23, [22, 19, 20, 21, 18, 15, 13, 17, 12, 8, 11, 7, 2, 6, 1, 0, 3, 5, 4, 10, 9, 16, 14], false, ⟨(some 83), .un .not (.tmp 82), some (79, false)⟩⟩, .bool),
          (⟨24, [19, 23, 18, 15, 13, 17, 12, 8, 11, 7, 2, 6, 1, 0, 3, 5, 4, 10, 9, 16, 14, 22, 20, 21], false, ⟨(some 84), .pick (.tmp 79) (.const (.bool true)) (.tmp 83), none⟩⟩, .bool),
          (⟨25, [24, 22, 19, 23, 18, 15, 13, 17, 12, 8, 11, 7, 2, 6, 1, 0, 3, 5, 4, 10, 9, 16, 14, 20, 21], false, ⟨(some 85), .move (.tmp 84), none⟩⟩, .bool),
          (⟨26, [25, 24, 22, 19, 23, 18, 15, 13, 17, 12, 8, 11, 7, 2, 6, 1, 0, 3, 5, 4, 10, 9, 16, 14, 20, 21], false, ⟨(some 86), .move (.tmp 7), some (85, false)⟩⟩, .ptr),
          (⟨29, [25, 24, 22, 19, 23, 18, 15, 13, 17, 12, 8, 11, 7, 2, 6, 1, 0, 3, 5, 4, 10, 9, 16, 14, 20, 21], false, ⟨(some 89), .move (.tmp 10), some (85, false)⟩⟩, .any),
          (⟨30, [29, 25, 24, 22, 19, 23, 18, 15, 13, 17, 12, 8, 11, 7, 2, 6, 1, 0, 3, 5, 4, 10, 9, 16, 14, 20, 21], false, ⟨(some 90), .toStr (.tmp 89), some (85, false)⟩⟩, .any),
          (⟨27, [26, 25, 24, 22, 19, 23, 18, 15, 13, 17, 12, 8, 11, 7, 2, 6, 1, 0, 3, 5, 4, 10, 9, 16, 14, 20, 21], true, ⟨(some 87), .call k_sector_Disk_Image [(.tmp 86)], some (85, false)⟩⟩, .any),
          (⟨28, [27, 25, 26, 24, 22, 19, 23, 18, 15, 13, 17, 12, 8, 11, 7, 2, 6, 1, 0, 3, 5, 4, 10, 9, 16, 14, 20, 21], false, ⟨(some 88), .toStr (.tmp 87), some (85, false)⟩⟩, .any),
          (⟨31, [28, 30, 25, 27, 26, 24, 22, 19, 23, 18, 15, 13, 17, 12, 8, 11, 7, 2, 6, 1, 0, 3, 5, 4, 10, 9, 16, 14, 20, 21, 29], false, ⟨(some 91), .bins .neq (.tmp 88) (.tmp 90), some (85, false)⟩⟩, .bool),
          (⟨32, [25, 31, 24, 22, 19, 23, 18, 15, 13, 17, 12, 8, 11, 7, 2, 6, 1, 0, 3, 5, 4, 10, 9, 16, 14, 20, 21, 28, 30, 27, 26, 29], false, ⟨(some 92), .pick (.tmp 85) (.const (.bool true)) (.tmp 91), none⟩⟩, .bool)]) <|
    .cond (.tmp 92)
      (.seq (.reg [(⟨(some 6), .move (.const (.bool false)), none⟩, .bool)]) <|
      .ret)
      (.skip)) <|
  .seq (.reg [(⟨(some 93), .move (.tmp 7), none⟩, .ptr),
      (⟨(some 94), .call k_sector_Disk_Copy [(.tmp 93)], none⟩, .ptr),
      (⟨(some 11), .move (.tmp 94), none⟩, .ptr)]) <|
  .seq (.seq (.reg [(⟨(some 95), .move (.tmp 11), none⟩, .ptr),
        (⟨(some 96), .eqv false .ptr (.tmp 95) (.const (.pointer none)), none⟩, .bool)]) <|
    .cond (.tmp 96)
      (.seq (.reg [(⟨(some 6), .move (.const (.bool false)), none⟩, .bool)]) <|
      .ret)
      (.skip)) <|
  .seq (.reg [(⟨(some 98), .move (.tmp 7), none⟩, .ptr),
      (⟨(some 99), .move (.tmp 2), none⟩, .any),
      (⟨(some 100), .call k_sector_Disk_Crash [(.tmp 98), (.tmp 99)], none⟩, .any),
      (⟨(some 97), .move (.tmp 100), none⟩, .any),
      (⟨(some 101), .extract (.tmp 97) 0, none⟩, (.int .i64)),
      (⟨(some 102), .extract (.tmp 97) 1, none⟩, (.int .i64)),
      (⟨(some 9), .move (.tmp 101), none⟩, (.int .i64)),
      (⟨(some 8), .move (.tmp 102), none⟩, (.int .i64))]) <|
  .seq (.reg [(⟨(some 103), .move (.tmp 7), none⟩, .ptr),
      (⟨(some 104), .call k_sector_Disk_Image [(.tmp 103)], none⟩, .any),
      (⟨(some 12), .move (.tmp 104), none⟩, .any)]) <|
  .seq (.seq (.cutn [(123, .bool)] <|
        .reg [(⟨(some 105), .move (.tmp 8), none⟩, (.int .i64)),
          (⟨(some 106), .bin .neq (.tmp 105) (.const (.int .i64 0)), none⟩, .bool),
          (⟨(some 107), .move (.tmp 106), none⟩, .bool),
          (⟨(some 108), .move (.tmp 9), some (107, false)⟩, (.int .i64)),
          (⟨(some 109), .move (.tmp 1), some (107, false)⟩, .any),
          (⟨(some 110), .lenS (.tmp 109), some (107, false)⟩, (.int .i64)),
          (⟨(some 111), .bin .neq (.tmp 108) (.tmp 110), some (107, false)⟩, .bool),
          (⟨(some 112), .pick (.tmp 107) (.const (.bool true)) (.tmp 111), none⟩, .bool),
          (⟨(some 113), .move (.tmp 112), none⟩, .bool),
          (⟨(some 114), .move (.tmp 12), some (113, false)⟩, .any),
          (⟨(some 115), .lenS (.tmp 114), some (113, false)⟩, (.int .i64)),
          (⟨(some 116), .bin .neq (.tmp 115) (.const (.int .i64 512)), some (113, false)⟩, .bool),
          (⟨(some 117), .pick (.tmp 113) (.const (.bool true)) (.tmp 116), none⟩, .bool),
          (⟨(some 118), .move (.tmp 117), none⟩, .bool),
          (⟨(some 119), .move (.tmp 7), some (118, false)⟩, .ptr),
          (⟨(some 120), .call k_sector_Disk_Waiting [(.tmp 119)], some (118, false)⟩, .any),
          (⟨(some 121), .lenS (.tmp 120), some (118, false)⟩, (.int .i64)),
          (⟨(some 122), .bin .neq (.tmp 121) (.const (.int .i64 0)), some (118, false)⟩, .bool),
          (⟨(some 123), .pick (.tmp 118) (.const (.bool true)) (.tmp 122), none⟩, .bool)]) <|
    .cond (.tmp 123)
      (.seq (.reg [(⟨(some 6), .move (.const (.bool false)), none⟩, .bool)]) <|
      .ret)
      (.skip)) <|
  .seq (.cut [] <|
      .seq (.reg [(⟨(some 13), .move (.const (.int .i64 0)), none⟩, (.int .i64))]) <|
      .block 0 <|
        .loop [(13, (.int .i64))] <|
          .seq (.seq (.reg [(⟨(some 124), .move (.tmp 13), none⟩, (.int .i64)),
                (⟨(some 125), .bin .lss (.tmp 124) (.const (.int .i64 8)), none⟩, .bool)]) <|
            .cond (.tmp 125)
              (.skip)
              (.exit 0)) <|
          .seq (.cut [] <|
              .block 1 <|
                .seq (.reg [(⟨(some 128), .move (.tmp 10), none⟩, .any),
                    (⟨(some 129), .move (.tmp 13), none⟩, (.int .i64)),
                    (⟨(some 130), .bin .mul (.tmp 129) (.const (.int .i64 64)), none⟩, (.int .i64)),
                    (⟨(some 131), .move (.tmp 13), none⟩, (.int .i64)),
                    (⟨(some 132), .bin .mul (.tmp 131) (.const (.int .i64 64)), none⟩, (.int .i64)),
                    (⟨(some 133), .bin .add (.tmp 132) (.const (.int .i64 64)), none⟩, (.int .i64)),
                    (⟨(some 134), .slice 1 (.tmp 128) (some (.tmp 130)) (some (.tmp 133)) none, none⟩, .any),
                    (⟨(some 135), .toStr (.tmp 134), none⟩, .any),
                    (⟨(some 14), .move (.tmp 135), none⟩, .any)]) <|
                .seq (.cutn [(14, .any)] <|
                    .seq (.reg [(⟨(some 136), .move (.tmp 1), none⟩, .any),
                        (⟨(some 137), .lenS (.tmp 136), none⟩, (.int .i64)),
                        (⟨(some 138), .move (.const (.int .i64 0)), none⟩, (.int .i64))]) <|
                    .block 2 <|
                      .loop [(14, .any), (138, (.int .i64))] <|
                        .seq (.reg [(⟨(some 139), .bin .lss (.tmp 138) (.tmp 137), none⟩, .any)]) <|
                        .seq (.cond (.tmp 139)
                            (.skip)
                            (.exit 2)) <|
                        .seq (.cutn [(14, .any)] <|
                            .block 3 <|
                              .seq (.reg [(⟨(some 140), .move (.tmp 138), none⟩, (.int .i64)),
                                  (⟨(some 141), .idxSlice 1 (.tmp 136) (.tmp 138), none⟩, .ptr),
                                  (⟨(some 142), .load false 1 (.tmp 141), none⟩, (.int .i64)),
                                  (⟨(some 15), .move (.tmp 140), none⟩, (.int .i64)),
                                  (⟨(some 16), .move (.tmp 142), none⟩, (.int .i64))]) <|
                              .seq (.reg [(⟨(some 143), .move (.tmp 2), none⟩, .any),
                                  (⟨(some 144), .lenS (.tmp 143), none⟩, (.int .i64)),
                                  (⟨(some 145), .move (.const (.int .i64 0)), none⟩, (.int .i64))]) <|
                              .block 4 <|
                                .loop [(14, .any), (145, (.int .i64))] <|
                                  .seq (.reg [(⟨(some 146), .bin .lss (.tmp 145) (.tmp 144), none⟩, .any)]) <|
                                  .seq (.cond (.tmp 146)
                                      (.skip)
                                      (.exit 4)) <|
                                  .seq (.cutn [(14, .any)] <|
                                      .block 5 <|
                                        .seq (.reg [(⟨(some 147), .idxSlice 1 (.tmp 143) (.tmp 145), none⟩, .ptr),
                                            (⟨(some 148), .load false 1 (.tmp 147), none⟩, (.int .i64)),
                                            (⟨(some 18), .move (.tmp 148), none⟩, (.int .i64))]) <|
                                        .seq (.cutn [(159, .bool)] <|
                                            .reg [(⟨(some 149), .move (.tmp 18), none⟩, (.int .i64)),
                                              (⟨(some 150), .move (.tmp 15), none⟩, (.int .i64)),
                                              (⟨(some 151), .bin .eql (.tmp 149) (.tmp 150), none⟩, .bool),
                                              (⟨(some 152), .move (.tmp 151), none⟩, .bool),
                                              (⟨(some 153), .move (.tmp 16), some (152, true)⟩, (.int .i64)),
                                              (⟨(some 154), .bin .rem (.tmp 153) (.const (.int .i64 8)), some (152, true)⟩, (.int .i64)),
                                              (⟨(some 155), .bin .add (.tmp 154) (.const (.int .i64 8)), some (152, true)⟩, (.int .i64)),
                                              (⟨(some 156), .bin .rem (.tmp 155) (.const (.int .i64 8)), some (152, true)⟩, (.int .i64)),
                                              (⟨(some 157), .move (.tmp 13), some (152, true)⟩, (.int .i64)),
                                              (⟨(some 158), .bin .eql (.tmp 156) (.tmp 157), some (152, true)⟩, .bool),
                                              (⟨(some 159), .pick (.tmp 152) (.tmp 158) (.const (.bool false)), none⟩, .bool)]) <|
                                        .cond (.tmp 159)
                                          (.seq (.reg [(⟨(some 160), .makeSlice 1 1 [(.int .u8 0)] (.const (.int .i64 64)) (.const (.int .i64 64)), none⟩, .any),
                                              (⟨(some 19), .move (.tmp 160), none⟩, .any)]) <|
                                          .seq (.cutn [] <|
                                              .seq (.reg [(⟨(some 161), .move (.tmp 19), none⟩, .any),
                                                  (⟨(some 162), .lenS (.tmp 161), none⟩, (.int .i64)),
                                                  (⟨(some 163), .move (.const (.int .i64 0)), none⟩, (.int .i64))]) <|
                                              .block 6 <|
                                                .loop [(163, (.int .i64))] <|
                                                  .seq (.reg [(⟨(some 164), .bin .lss (.tmp 163) (.tmp 162), none⟩, .any)]) <|
                                                  .seq (.cond (.tmp 164)
                                                      (.skip)
                                                      (.exit 6)) <|
                                                  .seq (.block 7 <|
                                                      .seq (.reg [(⟨(some 165), .move (.tmp 163), none⟩, (.int .i64)),
                                                          (⟨(some 20), .move (.tmp 165), none⟩, (.int .i64))]) <|
                                                      .reg [(⟨(some 166), .move (.tmp 19), none⟩, .any),
                                                        (⟨(some 167), .move (.tmp 20), none⟩, (.int .i64)),
                                                        (⟨(some 168), .move (.tmp 15), none⟩, (.int .i64)),
                                                        (⟨(some 169), .bin .add (.tmp 168) (.const (.int .i64 1)), none⟩, (.int .i64)),
                                                        (⟨(some 170), .conv .u8 (.tmp 169), none⟩, (.int .u8)),
                                                        (⟨(some 171), .idxSlice 1 (.tmp 166) (.tmp 167), none⟩, .ptr),
                                                        (⟨none, .store 1 (.tmp 171) (.tmp 170), none⟩, .any)]) <|
                                                  .reg [(⟨(some 172), .bin .add (.tmp 163) (.const (.int .i64 1)), none⟩, (.int .i64)),
                                                    (⟨(some 163), .move (.tmp 172), none⟩, (.int .i64))]) <|
                                          .reg [(⟨(some 173), .move (.tmp 19), none⟩, .any),
                                            (⟨(some 174), .toStr (.tmp 173), none⟩, .any),
                                            (⟨(some 14), .move (.tmp 174), none⟩, .any)])
                                          (.skip)) <|
                                  .reg [(⟨(some 175), .bin .add (.tmp 145) (.const (.int .i64 1)), none⟩, (.int .i64)),
                                    (⟨(some 145), .move (.tmp 175), none⟩, (.int .i64))]) <|
                        .reg [(⟨(some 176), .bin .add (.tmp 138) (.const (.int .i64 1)), none⟩, (.int .i64)),
                          (⟨(some 138), .move (.tmp 176), none⟩, (.int .i64))]) <|
                .seq (.reg [(⟨(some 178), .move (.tmp 7), none⟩, .ptr),
                    (⟨(some 179), .move (.tmp 13), none⟩, (.int .i64)),
                    (⟨(some 180), .call k_sector_Disk_Read [(.tmp 178), (.tmp 179)], none⟩, .any),
                    (⟨(some 177), .move (.tmp 180), none⟩, .any),
                    (⟨(some 181), .extract (.tmp 177) 0, none⟩, .any),
                    (⟨(some 182), .extract (.tmp 177) 1, none⟩, (.int .i64)),
                    (⟨(some 21), .move (.tmp 181), none⟩, .any),
                    (⟨(some 22), .move (.tmp 182), none⟩, (.int .i64))]) <|
                .seq (.cutn [(202, .bool)] <|
                    .reg [(⟨(some 183), .move (.tmp 22), none⟩, (.int .i64)),
                      (⟨(some 184), .bin .neq (.tmp 183) (.const (.int .i64 0)), none⟩, .bool),
                      (⟨(some 185), .move (.tmp 184), none⟩, .bool),
                      (⟨(some 186), .move (.tmp 21), some (185, false)⟩, .any),
                      (⟨(some 187), .toStr (.tmp 186), some (185, false)⟩, .any),
                      (⟨(some 188), .move (.tmp 14), some (185, false)⟩, .any),
                      (⟨(some 189), .bins .neq (.tmp 187) (.tmp 188), some (185, false)⟩, .bool),
                      (⟨(some 190), .pick (.tmp 185) (.const (.bool true)) (.tmp 189), none⟩, .bool),
                      (⟨(some 191), .move (.tmp 190), none⟩, .bool),
                      (⟨(some 192), .move (.tmp 12), some (191, false)⟩, .any),
                      (⟨(some 193), .move (.tmp 13), some (191, false)⟩, (.int .i64)),
                      (⟨(some 194), .bin .mul (.tmp 193) (.const (.int .i64 64)), some (191, false)⟩, (.int .i64)),
                      (⟨(some 195), .move (.tmp 13), some (191, false)⟩, (.int .i64)),
                      (⟨(some 196), .bin .mul (.tmp 195) (.const (.int .i64 64)), some (191, false)⟩, (.int .i64)),
                      (⟨(some 197), .bin .add (.tmp 196) (.const (.int .i64 64)), some (191, false)⟩, (.int .i64)),
                      (⟨(some 198), .slice 1 (.tmp 192) (some (.tmp 194)) (some (.tmp 197)) none, some (191, false)⟩, .any),
                      (⟨(some 199), .toStr (.tmp 198), some (191, false)⟩, .any),
                      (⟨(some 200), .move (.tmp 14), some (191, false)⟩, .any),
                      (⟨(some 201), .bins .neq (.tmp 199) (.tmp 200), some (191, false)⟩, .bool),
                      (⟨(some 202), .pick (.tmp 191) (.const (.bool true)) (.tmp 201), none⟩, .bool)]) <|
                .cond (.tmp 202)
                  (.seq (.reg [(⟨(some 6), .move (.const (.bool false)), none⟩, .bool)]) <|
                  .ret)
                  (.skip)) <|
          .reg [(⟨(some 126), .move (.tmp 13), none⟩, (.int .i64)),
            (⟨(some 127), .bin .add (.tmp 126) (.const (.int .i64 1)), none⟩, (.int .i64)),
            (⟨(some 13), .move (.tmp 127), none⟩, (.int .i64))]) <|
  .seq (.reg [(⟨(some 23), .move (.const (.slice none 0 0)), none⟩, .any)]) <|
  .seq (.cutn [(23, .any)] <|
      .seq (.reg [(⟨(some 203), .move (.tmp 1), none⟩, .any),
          (⟨(some 204), .lenS (.tmp 203), none⟩, (.int .i64)),
          (⟨(some 205), .move (.const (.int .i64 0)), none⟩, (.int .i64))]) <|
      .block 8 <|
        .loop [(23, .any), (205, (.int .i64))] <|
          .seq (.reg [(⟨(some 206), .bin .lss (.tmp 205) (.tmp 204), none⟩, .any)]) <|
          .seq (.cond (.tmp 206)
              (.skip)
              (.exit 8)) <|
          .seq (.block 9 <|
              .seq (.reg [(⟨(some 207), .move (.tmp 205), none⟩, (.int .i64)),
                  (⟨(some 24), .move (.tmp 207), none⟩, (.int .i64))]) <|
              .reg [(⟨(some 208), .move (.tmp 23), none⟩, .any),
                (⟨(some 209), .move (.tmp 1), none⟩, .any),
                (⟨(some 210), .lenS (.tmp 209), none⟩, (.int .i64)),
                (⟨(some 211), .bin .sub (.tmp 210) (.const (.int .i64 1)), none⟩, (.int .i64)),
                (⟨(some 212), .move (.tmp 24), none⟩, (.int .i64)),
                (⟨(some 213), .bin .sub (.tmp 211) (.tmp 212), none⟩, (.int .i64)),
                (⟨(some 214), .buildSlice 1 1 [(.int .i64 0)] [(0, 1, (.tmp 213))], none⟩, .any),
                (⟨(some 215), .append 8 1 (.tmp 208) (.tmp 214), none⟩, .any),
                (⟨(some 23), .move (.tmp 215), none⟩, .any)]) <|
          .reg [(⟨(some 216), .bin .add (.tmp 205) (.const (.int .i64 1)), none⟩, (.int .i64)),
            (⟨(some 205), .move (.tmp 216), none⟩, (.int .i64))]) <|
  .seq (.reg [(⟨(some 217), .move (.tmp 11), none⟩, .ptr),
      (⟨(some 218), .call k_sector_Disk_Copy [(.tmp 217)], none⟩, .ptr),
      (⟨(some 25), .move (.tmp 218), none⟩, .ptr)]) <|
  .seq (.seq (.reg [(⟨(some 219), .move (.tmp 25), none⟩, .ptr),
        (⟨(some 220), .eqv false .ptr (.tmp 219) (.const (.pointer none)), none⟩, .bool)]) <|
    .cond (.tmp 220)
      (.seq (.reg [(⟨(some 6), .move (.const (.bool false)), none⟩, .bool)]) <|
      .ret)
      (.skip)) <|
  .seq (.reg [(⟨(some 222), .move (.tmp 11), none⟩, .ptr),
      (⟨(some 223), .move (.tmp 23), none⟩, .any),
      (⟨(some 224), .call k_sector_Disk_Crash [(.tmp 222), (.tmp 223)], none⟩, .any),
      (⟨(some 221), .move (.tmp 224), none⟩, .any),
      (⟨(some 225), .extract (.tmp 221) 0, none⟩, (.int .i64)),
      (⟨(some 226), .extract (.tmp 221) 1, none⟩, (.int .i64)),
      (⟨(some 26), .move (.tmp 225), none⟩, (.int .i64)),
      (⟨(some 8), .move (.tmp 226), none⟩, (.int .i64))]) <|
  .seq (.reg [(⟨(some 228), .move (.tmp 25), none⟩, .ptr),
      (⟨(some 229), .call k_sector_Disk_Flush [(.tmp 228)], none⟩, .any),
      (⟨(some 227), .move (.tmp 229), none⟩, .any),
      (⟨(some 230), .extract (.tmp 227) 0, none⟩, (.int .i64)),
      (⟨(some 231), .extract (.tmp 227) 1, none⟩, (.int .i64)),
      (⟨(some 27), .move (.tmp 230), none⟩, (.int .i64)),
      (⟨(some 28), .move (.tmp 231), none⟩, (.int .i64))]) <|
  .seq (.regd [(⟨0, [], false, ⟨(some 232), .move (.tmp 8), none⟩⟩, (.int .i64)),
      (⟨1, [0], false, ⟨(some 233), .bin .eql (.tmp 232) (.const (.int .i64 0)), none⟩⟩, .bool),
      (⟨2, [1, 0], false, ⟨(some 234), .move (.tmp 233), none⟩⟩, .bool),
      (⟨3, [2, 1, 0], false, ⟨(some 235), .move (.tmp 28), some (234, true)⟩⟩, (.int .i64)),
      (⟨4, [3, 2, 1, 0], false, ⟨(some 236), .bin .eql (.tmp 235) (.const (.int .i64 0)), some (234, true)⟩⟩, .bool),
      (⟨5, [2, 4, 1, 0, 3], false, ⟨(some 237), .pick (.tmp 234) (.tmp 236) (.const (.bool false)), none⟩⟩, .bool),
      (⟨6, [5, 2, 4, 1, 0, 3], false, ⟨(some 238), .move (.tmp 237), none⟩⟩, .bool),
      (⟨7, [6, 5, 2, 4, 1, 0, 3], false, ⟨(some 239), .move (.tmp 26), some (238, true)⟩⟩, (.int .i64)),
      (⟨8, [6, 5, 2, 4, 1, 0, 3], false, ⟨(some 240), .move (.tmp 27), some (238, true)⟩⟩, (.int .i64)),
      (⟨9, [7, 8, 6, 5, 2, 4, 1, 0, 3], false, ⟨(some 241), .bin .eql (.tmp 239) (.tmp 240), some (238, true)⟩⟩, .bool),
      (⟨10, [6, 9, 5, 2, 4, 1, 0, 3, 7, 8], false, ⟨(some 242), .pick (.tmp 238) (.tmp 241) (.const (.bool false)), none⟩⟩, .bool),
      (⟨11, [10, 6, 9, 5, 2, 4, 1, 0, 3, 7, 8], false, ⟨(some 243), .move (.tmp 242), none⟩⟩, .bool),
      (⟨12, [11, 10, 6, 9, 5, 2, 4, 1, 0, 3, 7, 8], false, ⟨(some 244), .move (.tmp 11), some (243, true)⟩⟩, .ptr),
      (⟨15, [11, 10, 6, 9, 5, 2, 4, 1, 0, 3, 7, 8], false, ⟨(some 247), .move (.tmp 25), some (243, true)⟩⟩, .ptr),
      (⟨13, [12, 11, 10, 6, 9, 5, 2, 4, 1, 0, 3, 7, 8], true, ⟨(some 245), .call k_sector_Disk_Image [(.tmp 244)], some (243, true)⟩⟩, .any),
      (⟨14, [13, 11, 12, 10, 6, 9, 5, 2, 4, 1, 0, 3, 7, 8], false, ⟨(some 246), .toStr (.tmp 245), some (243, true)⟩⟩, .any),
      (⟨16, [15, 13, 11, 10, 6, 9, 5, 2, 4, 1, 0, 3, 7, 8, 12], true, ⟨(some 248), .call k_sector_Disk_Image [(.tmp 247)], some (243, true)⟩⟩, .any),
      (⟨17, [16, 11, 15, 13, 10, 6, 9, 5, 2, 4, 1, 0, 3, 7, 8, 12], false, ⟨(some 249), .toStr (.tmp 248), some (243, true)⟩⟩, .any),
      (⟨18, [14, 17, 11, 13, 12, 10, 6, 9, 5, 2, 4, 1, 0, 3, 7, 8, 16, 15], false, ⟨(some 250), .bins .eql (.tmp 246) (.tmp 249), some (243, true)⟩⟩, .bool),
      (⟨19, [11, 18, 10, 6, 9, 5, 2, 4, 1, 0, 3, 7, 8, 14, 17, 13, 12, 16, 15], false, ⟨(some 251), .pick (.tmp 243) (.tmp 250) (.const (.bool false)), none⟩⟩, .bool),
      (⟨20, [19, 16, 0, 1, 2, 3, 4, 5, 6, 7, 8, 9, 10, 11, 12, 13, 14, 15, 17, 18], false, ⟨(some 6), .move (.tmp 251), none⟩⟩, .bool)]) <|
  .ret
def f_wicketlaw04_SectorKeeps_L54 (n : Nat) (v36 : Int) (p47 : (Value × AObj)) (n49 : Nat) (v50 : Int) (h51 : Heap) : Option (((Int × Unit) × Heap) ⊕ ((Unit) × Heap)) :=
  bif (decide (v50 < (n49 : Int))) then
    ((ixB 1 p47.1 v50).bind fun q52 =>
    (stB 1 (.int .u8 (IntKind.u8.wrap ((IntKind.i64.wrap (v36 + 1))))) h51 (some q52)).bind fun h53 =>
    some (.inl (((IntKind.i64.wrap (v50 + 1)), ()), h53)))
  else
    (some (.inr ((), h51)))
def f_wicketlaw04_SectorKeeps_L58 (n : Nat) (p3 : ((Value × Unit) × Heap)) (v29 : Int) (v36 : Int) (x39 : Int) (n40 : Nat) (v41 : Value) (v42 : Int) (h43 : Heap) : Option (((Value × Int × Unit) × Heap) ⊕ ((Value × Unit) × Heap)) :=
  bif (decide (v42 < (n40 : Int))) then
    ((((ixB 1 p3.1.1 v42).bind fun q44 =>
      (ldT (.int .i64) h43 (some q44)).bind fun x45 =>
      ((bif (decide (x45 = v36)) then
          (some (((decide ((Int.tmod (IntKind.i64.wrap ((Int.tmod x39 8) + 8)) 8) = v29)), ()), h43))
        else
          (some ((false, ()), h43))) : Option ((Bool × Unit) × Heap)).bind fun a46 =>
      bif a46.1.1 then
        ((mkSl (Heap.next a46.2) 1 1 [(.int .u8 0)] (.int .i64 64) (.int .i64 64)).bind fun p47 =>
        bnd ((Heap.new a46.2 (p47.2))) fun h48 =>
        (((lenB p47.1).bind fun n49 =>
          loopT (fun a => f_wicketlaw04_SectorKeeps_L54 n v36 p47 n49 a.1.1 a.2) n ((0, ()), h48)) : Option ((Unit) × Heap)).bind fun a55 =>
        (toStrK a55.2 p47.1).bind fun p56 =>
        some ((p56.1, ()), a55.2))
      else
        (some ((v41, ()), a46.2))) : Option ((Value × Unit) × Heap)).bind fun a57 =>
    some (.inl ((a57.1.1, ((IntKind.i64.wrap (v42 + 1)), ())), a57.2)))
  else
    (some (.inr ((v41, ()), h43)))
def f_wicketlaw04_SectorKeeps_L60 (n : Nat) (p2 : ((Value × Unit) × Heap)) (p3 : ((Value × Unit) × Heap)) (v29 : Int) (n34 : Nat) (v35 : Value) (v36 : Int) (h37 : Heap) : Option (((Value × Int × Unit) × Heap) ⊕ ((Value × Unit) × Heap)) :=
  bif (decide (v36 < (n34 : Int))) then
    ((((ixB 1 p2.1.1 v36).bind fun q38 =>
      (ldT (.int .i64) h37 (some q38)).bind fun x39 =>
      (lenB p3.1.1).bind fun n40 =>
      loopT (fun a => f_wicketlaw04_SectorKeeps_L58 n p3 v29 v36 x39 n40 a.1.1 a.1.2.1 a.2) n ((v35, (0, ())), h37)) : Option ((Value × Unit) × Heap)).bind fun a59 =>
    some (.inl ((a59.1.1, ((IntKind.i64.wrap (v36 + 1)), ())), a59.2)))
  else
    (some (.inr ((v35, ()), h37)))
def f_wicketlaw04_SectorKeeps_C69 (n : Nat) (p2 : ((Value × Unit) × Heap)) (p3 : ((Value × Unit) × Heap)) (p4 : ((Option Addr × Int × Unit) × Heap)) (p8 : ((Value × Unit) × Heap)) (p22 : ((Value × Unit) × Heap)) (v29 : Int) (h31 : Heap) : Option (((Unit) × Heap) ⊕ (((Int × Unit) × Heap) ⊕ (((Unit) × Heap) ⊕ ((Bool × Unit) × Heap)))) :=
  (sliceK h31 1 (some (.int .i64 (IntKind.i64.wrap (v29 * 64)))) (some (.int .i64 (IntKind.i64.wrap ((IntKind.i64.wrap (v29 * 64)) + 64)))) none p8.1.1).bind fun p32 =>
  (toStrK h31 p32.1).bind fun p33 =>
  (((lenB p2.1.1).bind fun n34 =>
    loopT (fun a => f_wicketlaw04_SectorKeeps_L60 n p2 p3 v29 n34 a.1.1 a.1.2.1 a.2) n ((p33.1, (0, ())), h31)) : Option ((Value × Unit) × Heap)).bind fun a61 =>
  (f_sector_Disk_Read n p4.1.1 v29 a61.2).bind fun p62 =>
  ((bif (!decide (p62.1.2.1 = 0)) then
      (some ((true, ()), p62.2))
    else
      ((toStrK p62.2 p62.1.1).bind fun p63 =>
      (binsT .bool p62.2 .neq p63.1 a61.1.1).bind fun x64 =>
      bif x64 then
        (some ((true, ()), p62.2))
      else
        ((sliceK p62.2 1 (some (.int .i64 (IntKind.i64.wrap (v29 * 64)))) (some (.int .i64 (IntKind.i64.wrap ((IntKind.i64.wrap (v29 * 64)) + 64)))) none p22.1.1).bind fun p65 =>
        (toStrK p62.2 p65.1).bind fun p66 =>
        (binsT .bool p62.2 .neq p66.1 a61.1.1).bind fun x67 =>
        some ((x67, ()), p62.2)))) : Option ((Bool × Unit) × Heap)).bind fun a68 =>
  bif a68.1.1 then
    (some (.inr (.inr (.inr ((false, ()), a68.2)))))
  else
    (some (.inl ((), a68.2)))
def f_wicketlaw04_SectorKeeps_L71 (n : Nat) (p2 : ((Value × Unit) × Heap)) (p3 : ((Value × Unit) × Heap)) (p4 : ((Option Addr × Int × Unit) × Heap)) (p8 : ((Value × Unit) × Heap)) (p22 : ((Value × Unit) × Heap)) (v29 : Int) (h30 : Heap) : Option (((Int × Unit) × Heap) ⊕ (((Unit) × Heap) ⊕ ((Bool × Unit) × Heap))) :=
  bif (decide (v29 < 8)) then
    (thenB (f_wicketlaw04_SectorKeeps_C69 n p2 p3 p4 p8 p22 v29 (h30)) fun a70 =>
    some (.inl (((IntKind.i64.wrap (v29 + 1)), ()), a70.2)))
  else
    (some (.inr (.inl ((), h30))))
def f_wicketlaw04_SectorKeeps_C72 (n : Nat) (p2 : ((Value × Unit) × Heap)) (p3 : ((Value × Unit) × Heap)) (p4 : ((Option Addr × Int × Unit) × Heap)) (p8 : ((Value × Unit) × Heap)) (p22 : ((Value × Unit) × Heap)) (h28 : Heap) : Option (((Unit) × Heap) ⊕ ((Bool × Unit) × Heap)) :=
  loopT (fun a => f_wicketlaw04_SectorKeeps_L71 n p2 p3 p4 p8 p22 a.1.1 a.2) n ((0, ()), h28)
def f_wicketlaw04_SectorKeeps_L82 (n : Nat) (p2 : ((Value × Unit) × Heap)) (n74 : Nat) (v75 : Value) (v76 : Int) (h77 : Heap) : Option (((Value × Int × Unit) × Heap) ⊕ ((Value × Unit) × Heap)) :=
  bif (decide (v76 < (n74 : Int))) then
    ((lenB p2.1.1).bind fun n78 =>
    (fillL [(.int .i64 0)] [(0, 1, (.int .i64 (IntKind.i64.wrap ((IntKind.i64.wrap ((n78 : Int) - 1)) - v76))))]).bind fun cs79 =>
    bnd ((Heap.new h77 (.cells cs79 false 1))) fun h80 =>
    (appendK h80 8 1 v75 (.slice (some ⟨Heap.next h77, 0, some 0⟩) 1 1)).bind fun p81 =>
    some (.inl ((p81.1, ((IntKind.i64.wrap (v76 + 1)), ())), p81.2)))
  else
    (some (.inr ((v75, ()), h77)))
noncomputable def sf_wicketlaw04_SectorKeeps (n : Nat) : Sf := sfOf [(k_wicketlaw04_awake, s_wicketlaw04_awake n), (k_wicketlaw04_some, s_wicketlaw04_some n), (k_sector_New, s_sector_New n), (k_wicketlaw04_put, s_wicketlaw04_put n), (k_sector_Disk_Flush, s_sector_Disk_Flush n), (k_sector_Disk_Image, s_sector_Disk_Image n), (k_sector_Disk_Waiting, s_sector_Disk_Waiting n), (k_sector_Disk_Copy, s_sector_Disk_Copy n), (k_sector_Disk_Crash, s_sector_Disk_Crash n), (k_sector_Disk_Read, s_sector_Disk_Read n)]
noncomputable def it_wicketlaw04_SectorKeeps (n : Nat) : It := itOf []
def f_wicketlaw04_SectorKeeps (n : Nat) (u0 : Value) (u1 : Value) (u2 : Value) (h : Heap) : Option ((Bool × Unit) × Heap) :=
  (f_wicketlaw04_awake n h).bind fun p0 =>
  bif (!p0.1.1) then
    (some ((false, ()), p0.2))
  else
    ((f_wicketlaw04_some n u0 p0.2).bind fun p1 =>
    (f_wicketlaw04_some n u1 p1.2).bind fun p2 =>
    (f_wicketlaw04_some n u2 p2.2).bind fun p3 =>
    (f_sector_New n 8 p3.2).bind fun p4 =>
    ((bif (Option.isNone p4.1.1) then
        (some ((true, ()), p4.2))
      else
        (bif (!decide (p4.1.2.1 = 0)) then
          (some ((true, ()), p4.2))
        else
          ((f_wicketlaw04_put n p4.1.1 p1.1.1 p4.2).bind fun p5 =>
          some (((!p5.1.1), ()), p5.2)))) : Option ((Bool × Unit) × Heap)).bind fun a6 =>
    bif a6.1.1 then
      (some ((false, ()), a6.2))
    else
      ((f_sector_Disk_Flush n p4.1.1 a6.2).bind fun p7 =>
      (f_sector_Disk_Image n p4.1.1 p7.2).bind fun p8 =>
      ((bif (!decide (p7.1.2.1 = 0)) then
          (some ((true, ()), p8.2))
        else
          ((lenB p1.1.1).bind fun n9 =>
          bif (!decide (p7.1.1 = (n9 : Int))) then
            (some ((true, ()), p8.2))
          else
            ((lenB p8.1.1).bind fun n10 =>
            bif (!decide ((n10 : Int) = 512)) then
              (some ((true, ()), p8.2))
            else
              ((f_sector_Disk_Waiting n p4.1.1 p8.2).bind fun p11 =>
              (lenB p11.1.1).bind fun n12 =>
              bif (!decide ((n12 : Int) = 0)) then
                (some ((true, ()), p11.2))
              else
                ((f_wicketlaw04_put n p4.1.1 p2.1.1 p11.2).bind fun p13 =>
                bif (!p13.1.1) then
                  (some ((true, ()), p13.2))
                else
                  ((toStrK p13.2 p8.1.1).bind fun p14 =>
                  (f_sector_Disk_Image n p4.1.1 (hid p13.2 [] (strReads p8.1.1 ++ []))).bind fun p15 =>
                  bnd (Heap.putBack p15.2 p13.2 ([] ++ (strReads p8.1.1 ++ []))) fun h16 =>
                  (toStrK h16 p15.1.1).bind fun p17 =>
                  (binsT .bool h16 .neq p17.1 p14.1).bind fun x18 =>
                  some ((x18, ()), h16))))))) : Option ((Bool × Unit) × Heap)).bind fun a19 =>
      bif a19.1.1 then
        (some ((false, ()), a19.2))
      else
        ((f_sector_Disk_Copy n p4.1.1 a19.2).bind fun p20 =>
        bif (Option.isNone p20.1.1) then
          (some ((false, ()), p20.2))
        else
          ((f_sector_Disk_Crash n p4.1.1 p3.1.1 p20.2).bind fun p21 =>
          (f_sector_Disk_Image n p4.1.1 p21.2).bind fun p22 =>
          ((bif (!decide (p21.1.2.1 = 0)) then
              (some ((true, ()), p22.2))
            else
              ((lenB p2.1.1).bind fun n23 =>
              bif (!decide (p21.1.1 = (n23 : Int))) then
                (some ((true, ()), p22.2))
              else
                ((lenB p22.1.1).bind fun n24 =>
                bif (!decide ((n24 : Int) = 512)) then
                  (some ((true, ()), p22.2))
                else
                  ((f_sector_Disk_Waiting n p4.1.1 p22.2).bind fun p25 =>
                  (lenB p25.1.1).bind fun n26 =>
                  some (((!decide ((n26 : Int) = 0)), ()), p25.2))))) : Option ((Bool × Unit) × Heap)).bind fun a27 =>
          bif a27.1.1 then
            (some ((false, ()), a27.2))
          else
            (thenB (f_wicketlaw04_SectorKeeps_C72 n p2 p3 p4 p8 p22 (a27.2)) fun a73 =>
            (((lenB p2.1.1).bind fun n74 =>
              loopT (fun a => f_wicketlaw04_SectorKeeps_L82 n p2 n74 a.1.1 a.1.2.1 a.2) n (((.slice none 0 0), (0, ())), a73.2)) : Option ((Value × Unit) × Heap)).bind fun a83 =>
            (f_sector_Disk_Copy n p20.1.1 a83.2).bind fun p84 =>
            bif (Option.isNone p84.1.1) then
              (some ((false, ()), p84.2))
            else
              ((f_sector_Disk_Crash n p20.1.1 a83.1.1 p84.2).bind fun p85 =>
              (f_sector_Disk_Flush n p84.1.1 p85.2).bind fun p86 =>
              bif (decide (p85.1.2.1 = 0)) then
                (bif (decide (p86.1.2.1 = 0)) then
                  (bif (decide (p85.1.1 = p86.1.1)) then
                    ((f_sector_Disk_Image n p20.1.1 p86.2).bind fun p87 =>
                    (toStrK p87.2 p87.1.1).bind fun p88 =>
                    (f_sector_Disk_Image n p84.1.1 (hid p87.2 [] (strReads p87.1.1 ++ []))).bind fun p89 =>
                    bnd (Heap.putBack p89.2 p87.2 ([] ++ (strReads p87.1.1 ++ []))) fun h90 =>
                    (toStrK h90 p89.1.1).bind fun p91 =>
                    (binsT .bool h90 .eql p88.1 p91.1).bind fun x92 =>
                    some ((x92, ()), h90))
                  else
                    (some ((false, ()), p86.2)))
                else
                  (some ((false, ()), p86.2)))
              else
                (some ((false, ()), p86.2))))))))
def rs_wicketlaw04_SectorKeeps : Rs := [(.tmp 6, .bool)]
def ps_wicketlaw04_SectorKeeps : List Ty := [.any, .any, .any]
theorem e_wicketlaw04_SectorKeeps (n : Nat) (u0 : Value) (u1 : Value) (u2 : Value) (h : Heap) : f_wicketlaw04_SectorKeeps n u0 u1 u2 h = fB (sf_wicketlaw04_SectorKeeps n) (it_wicketlaw04_SectorKeeps n) n c2_wicketlaw04_SectorKeeps rs_wicketlaw04_SectorKeeps ps_wicketlaw04_SectorKeeps (u0, (u1, (u2, ()))) h := by kernel_rfl
noncomputable def s_wicketlaw04_SectorKeeps (n : Nat) : Sf1 := mkSf ps_wicketlaw04_SectorKeeps rs_wicketlaw04_SectorKeeps fun a h => f_wicketlaw04_SectorKeeps n a.1 a.2.1 a.2.2.1 h

/-- The table holds these. -/
structure LfT (T : Nat → Option AFun) : Prop where
  t_wicketlaw04_awake : PrimT_wicketlaw04_awake T
  t_wicketlaw04_some : T k_wicketlaw04_some = some ⟨List.map (·.1) rs_wicketlaw04_some, C2.erase c2_wicketlaw04_some, none⟩
  t_sector_New : T k_sector_New = some ⟨List.map (·.1) rs_sector_New, C2.erase c2_sector_New, none⟩
  t_sector_Disk_Flush : T k_sector_Disk_Flush = some ⟨List.map (·.1) rs_sector_Disk_Flush, C2.erase c2_sector_Disk_Flush, none⟩
  t_sector_Disk_Image : T k_sector_Disk_Image = some ⟨List.map (·.1) rs_sector_Disk_Image, C2.erase c2_sector_Disk_Image, none⟩
  t_sector_Disk_Crash : T k_sector_Disk_Crash = some ⟨List.map (·.1) rs_sector_Disk_Crash, C2.erase c2_sector_Disk_Crash, none⟩
  t_sector_Disk_Len : T k_sector_Disk_Len = some ⟨List.map (·.1) rs_sector_Disk_Len, C2.erase c2_sector_Disk_Len, none⟩
  t_slices_Clone_byte_byte : T k_slices_Clone_byte_byte = some ⟨List.map (·.1) rs_slices_Clone_byte_byte, C2.erase c2_slices_Clone_byte_byte, none⟩
  t_slices_Clone_sector_data_sector_data : T k_slices_Clone_sector_data_sector_data = some ⟨List.map (·.1) rs_slices_Clone_sector_data_sector_data, C2.erase c2_slices_Clone_sector_data_sector_data, none⟩
  t_slices_Clone_sector_waiting_sector_waiting : T k_slices_Clone_sector_waiting_sector_waiting = some ⟨List.map (·.1) rs_slices_Clone_sector_waiting_sector_waiting, C2.erase c2_slices_Clone_sector_waiting_sector_waiting, none⟩
  t_sector_Disk_asked : T k_sector_Disk_asked = some ⟨List.map (·.1) rs_sector_Disk_asked, C2.erase c2_sector_Disk_asked, none⟩
  t_slices_Backward_sector_waiting_sector_waiting_1 : T k_slices_Backward_sector_waiting_sector_waiting_1 = some ⟨[], C2.erase c2_slices_Backward_sector_waiting_sector_waiting_1, none⟩
  t_sector_Disk_Waiting : T k_sector_Disk_Waiting = some ⟨List.map (·.1) rs_sector_Disk_Waiting, C2.erase c2_sector_Disk_Waiting, none⟩
  t_sector_Disk_Copy : T k_sector_Disk_Copy = some ⟨List.map (·.1) rs_sector_Disk_Copy, C2.erase c2_sector_Disk_Copy, none⟩
  t_sector_Disk_Write : T k_sector_Disk_Write = some ⟨List.map (·.1) rs_sector_Disk_Write, C2.erase c2_sector_Disk_Write, none⟩
  t_slices_Backward_sector_waiting_sector_waiting : T k_slices_Backward_sector_waiting_sector_waiting = some ⟨List.map (·.1) rs_slices_Backward_sector_waiting_sector_waiting, C2.erase c2_slices_Backward_sector_waiting_sector_waiting, none⟩
  t_wicketlaw04_put : T k_wicketlaw04_put = some ⟨List.map (·.1) rs_wicketlaw04_put, C2.erase c2_wicketlaw04_put, none⟩
  t_sector_Disk_Read : T k_sector_Disk_Read = some ⟨List.map (·.1) rs_sector_Disk_Read, C2.erase c2_sector_Disk_Read, none⟩
  t_wicketlaw04_SectorKeeps : T k_wicketlaw04_SectorKeeps = some ⟨List.map (·.1) rs_wicketlaw04_SectorKeeps, C2.erase c2_wicketlaw04_SectorKeeps, none⟩
variable {T : Nat → Option AFun}
theorem ok_wicketlaw04_awake (hT : LfT T) (n : Nat) : Sf1Ok T k_wicketlaw04_awake (s_wicketlaw04_awake n) := primOk_wicketlaw04_awake hT.t_wicketlaw04_awake n
theorem ok_wicketlaw04_some (hT : LfT T) (n : Nat) : Sf1Ok T k_wicketlaw04_some (s_wicketlaw04_some n) := mkSf_ok (sf := sf_wicketlaw04_some n) (it := it_wicketlaw04_some n) (n := n) hT.t_wicketlaw04_some sfOk_nil itOk_nil fun a h => e_wicketlaw04_some n a.1 h
theorem ok_sector_New (hT : LfT T) (n : Nat) : Sf1Ok T k_sector_New (s_sector_New n) := mkSf_ok (sf := sf_sector_New n) (it := it_sector_New n) (n := n) hT.t_sector_New sfOk_nil itOk_nil fun a h => e_sector_New n a.1 h
theorem ok_sector_Disk_Flush (hT : LfT T) (n : Nat) : Sf1Ok T k_sector_Disk_Flush (s_sector_Disk_Flush n) := mkSf_ok (sf := sf_sector_Disk_Flush n) (it := it_sector_Disk_Flush n) (n := n) hT.t_sector_Disk_Flush sfOk_nil itOk_nil fun a h => e_sector_Disk_Flush n a.1 h
theorem ok_sector_Disk_Image (hT : LfT T) (n : Nat) : Sf1Ok T k_sector_Disk_Image (s_sector_Disk_Image n) := mkSf_ok (sf := sf_sector_Disk_Image n) (it := it_sector_Disk_Image n) (n := n) hT.t_sector_Disk_Image sfOk_nil itOk_nil fun a h => e_sector_Disk_Image n a.1 h
theorem ok_sector_Disk_Crash (hT : LfT T) (n : Nat) : Sf1Ok T k_sector_Disk_Crash (s_sector_Disk_Crash n) := mkSf_ok (sf := sf_sector_Disk_Crash n) (it := it_sector_Disk_Crash n) (n := n) hT.t_sector_Disk_Crash sfOk_nil itOk_nil fun a h => e_sector_Disk_Crash n a.1 a.2.1 h
theorem ok_sector_Disk_Len (hT : LfT T) (n : Nat) : Sf1Ok T k_sector_Disk_Len (s_sector_Disk_Len n) := mkSf_ok (sf := sf_sector_Disk_Len n) (it := it_sector_Disk_Len n) (n := n) hT.t_sector_Disk_Len sfOk_nil itOk_nil fun a h => e_sector_Disk_Len n a.1 h
theorem ok_slices_Clone_byte_byte (hT : LfT T) (n : Nat) : Sf1Ok T k_slices_Clone_byte_byte (s_slices_Clone_byte_byte n) := mkSf_ok (sf := sf_slices_Clone_byte_byte n) (it := it_slices_Clone_byte_byte n) (n := n) hT.t_slices_Clone_byte_byte sfOk_nil itOk_nil fun a h => e_slices_Clone_byte_byte n a.1 h
theorem ok_slices_Clone_sector_data_sector_data (hT : LfT T) (n : Nat) : Sf1Ok T k_slices_Clone_sector_data_sector_data (s_slices_Clone_sector_data_sector_data n) := mkSf_ok (sf := sf_slices_Clone_sector_data_sector_data n) (it := it_slices_Clone_sector_data_sector_data n) (n := n) hT.t_slices_Clone_sector_data_sector_data sfOk_nil itOk_nil fun a h => e_slices_Clone_sector_data_sector_data n a.1 h
theorem ok_slices_Clone_sector_waiting_sector_waiting (hT : LfT T) (n : Nat) : Sf1Ok T k_slices_Clone_sector_waiting_sector_waiting (s_slices_Clone_sector_waiting_sector_waiting n) := mkSf_ok (sf := sf_slices_Clone_sector_waiting_sector_waiting n) (it := it_slices_Clone_sector_waiting_sector_waiting n) (n := n) hT.t_slices_Clone_sector_waiting_sector_waiting sfOk_nil itOk_nil fun a h => e_slices_Clone_sector_waiting_sector_waiting n a.1 h
theorem ok_sector_Disk_asked (hT : LfT T) (n : Nat) : Sf1Ok T k_sector_Disk_asked (s_sector_Disk_asked n) := mkSf_ok (sf := sf_sector_Disk_asked n) (it := it_sector_Disk_asked n) (n := n) hT.t_sector_Disk_asked sfOk_nil itOk_nil fun a h => e_sector_Disk_asked n a.1 a.2.1 h
theorem ok_slices_Backward_sector_waiting_sector_waiting_1 (hT : LfT T) (n : Nat) : It1Ok T k_slices_Backward_sector_waiting_sector_waiting_1 (i_slices_Backward_sector_waiting_sector_waiting_1 n) := mkIt_ok (sf := sf_slices_Backward_sector_waiting_sector_waiting_1 n) (it := it_slices_Backward_sector_waiting_sector_waiting_1 n) (n := n) hT.t_slices_Backward_sector_waiting_sector_waiting_1 sfOk_nil itOk_nil fun V hp up y a1 a2 v => e_slices_Backward_sector_waiting_sector_waiting_1 hp up y n a2.1 v
theorem ok_sector_Disk_Waiting (hT : LfT T) (n : Nat) : Sf1Ok T k_sector_Disk_Waiting (s_sector_Disk_Waiting n) := mkSf_ok (sf := sf_sector_Disk_Waiting n) (it := it_sector_Disk_Waiting n) (n := n) hT.t_sector_Disk_Waiting (sfOk_cons (ok_slices_Clone_byte_byte hT n) sfOk_nil) itOk_nil fun a h => e_sector_Disk_Waiting n a.1 h
theorem ok_sector_Disk_Copy (hT : LfT T) (n : Nat) : Sf1Ok T k_sector_Disk_Copy (s_sector_Disk_Copy n) := mkSf_ok (sf := sf_sector_Disk_Copy n) (it := it_sector_Disk_Copy n) (n := n) hT.t_sector_Disk_Copy (sfOk_cons (ok_slices_Clone_sector_data_sector_data hT n) (sfOk_cons (ok_slices_Clone_sector_waiting_sector_waiting hT n) sfOk_nil)) itOk_nil fun a h => e_sector_Disk_Copy n a.1 h
theorem ok_sector_Disk_Write (hT : LfT T) (n : Nat) : Sf1Ok T k_sector_Disk_Write (s_sector_Disk_Write n) := mkSf_ok (sf := sf_sector_Disk_Write n) (it := it_sector_Disk_Write n) (n := n) hT.t_sector_Disk_Write (sfOk_cons (ok_sector_Disk_asked hT n) sfOk_nil) itOk_nil fun a h => e_sector_Disk_Write n a.1 a.2.1 a.2.2.1 h
theorem ok_slices_Backward_sector_waiting_sector_waiting (hT : LfT T) (n : Nat) : Sf1Ok T k_slices_Backward_sector_waiting_sector_waiting (s_slices_Backward_sector_waiting_sector_waiting n) := mkSf_ok (sf := sf_slices_Backward_sector_waiting_sector_waiting n) (it := it_slices_Backward_sector_waiting_sector_waiting n) (n := n) hT.t_slices_Backward_sector_waiting_sector_waiting sfOk_nil itOk_nil fun a h => e_slices_Backward_sector_waiting_sector_waiting n a.1 h
theorem ok_wicketlaw04_put (hT : LfT T) (n : Nat) : Sf1Ok T k_wicketlaw04_put (s_wicketlaw04_put n) := mkSf_ok (sf := sf_wicketlaw04_put n) (it := it_wicketlaw04_put n) (n := n) hT.t_wicketlaw04_put (sfOk_cons (ok_sector_Disk_Write hT n) sfOk_nil) itOk_nil fun a h => e_wicketlaw04_put n a.1 a.2.1 h
theorem ok_sector_Disk_Read (hT : LfT T) (n : Nat) : Sf1Ok T k_sector_Disk_Read (s_sector_Disk_Read n) := mkSf_ok (sf := sf_sector_Disk_Read n) (it := it_sector_Disk_Read n) (n := n) hT.t_sector_Disk_Read (sfOk_cons (ok_sector_Disk_asked hT n) (sfOk_cons (ok_slices_Backward_sector_waiting_sector_waiting hT n) (sfOk_cons (ok_slices_Clone_byte_byte hT n) sfOk_nil))) (itOk_cons (ok_slices_Backward_sector_waiting_sector_waiting_1 hT n) itOk_nil) fun a h => e_sector_Disk_Read n a.1 a.2.1 h
theorem ok_wicketlaw04_SectorKeeps (hT : LfT T) (n : Nat) : Sf1Ok T k_wicketlaw04_SectorKeeps (s_wicketlaw04_SectorKeeps n) := mkSf_ok (sf := sf_wicketlaw04_SectorKeeps n) (it := it_wicketlaw04_SectorKeeps n) (n := n) hT.t_wicketlaw04_SectorKeeps (sfOk_cons (ok_wicketlaw04_awake hT n) (sfOk_cons (ok_wicketlaw04_some hT n) (sfOk_cons (ok_sector_New hT n) (sfOk_cons (ok_wicketlaw04_put hT n) (sfOk_cons (ok_sector_Disk_Flush hT n) (sfOk_cons (ok_sector_Disk_Image hT n) (sfOk_cons (ok_sector_Disk_Waiting hT n) (sfOk_cons (ok_sector_Disk_Copy hT n) (sfOk_cons (ok_sector_Disk_Crash hT n) (sfOk_cons (ok_sector_Disk_Read hT n) sfOk_nil)))))))))) itOk_nil fun a h => e_wicketlaw04_SectorKeeps n a.1 a.2.1 a.2.2.1 h
end Go.Proofs.Ytempahfiiofjkaa
