/- The functions at hand as plain typed functions, each with the proof that it is what the abstract machine's code does. -/
import Derived.Test.YtpihoicfnolepaaB9
import Derived.KernelRfl
namespace Go.Proofs.Ytpihoicfnolepaa
open Go
set_option linter.unusedVariables false
set_option maxRecDepth 100000
def k_maps_clone : Nat := 33
def k_wicketlaw16_awake : Nat := 4
def k_maps_Clone_map_int_api_Value_int_api_Value : Nat := 31
def k_wicketref16_Same : Nat := 11
def k_wicketlaw16_Apart : Nat := 12
def k_wicketlaw05_Apart : Nat := 13
def k_buffer_Buffer_Len : Nat := 14
def k_buffer_Buffer_Images : Nat := 17
def k_wicketlaw05_Own : Nat := 18
def k_blocks_Is : Nat := 19
def k_slices_Clone_int_int : Nat := 20
def k_wicketref05_Is : Nat := 21
def k_wicketref05_Same : Nat := 22
def k_buffer_Buffer_Copy : Nat := 25
def k_wicketref16_Buffer_Copy : Nat := 26
def k_buffer_Buffer_Form : Nat := 27
def k_wicketref05_Has : Nat := 30
def k_slices_Index_int_int : Nat := 35
def k_wicketlaw05_Roomy : Nat := 5
def k_buffer_New : Nat := 6
def k_wicketref16_New : Nat := 7
def k_wicketlaw05_Held : Nat := 8
def k_wicketref16_Buffer_Write : Nat := 23
def k_wicketref16_Buffer_Read : Nat := 24
def k_wicketref16_Buffer_Images : Nat := 28
def k_slices_Contains_int_int : Nat := 34
def k_wicketlaw16_pair_told : Nat := 10
def k_blocks_Has : Nat := 32
def k_buffer_Buffer_refused : Nat := 29
def k_buffer_Buffer_Write : Nat := 15
def k_buffer_Buffer_Read : Nat := 16
def k_wicketlaw16_pair_plays : Nat := 9
def k_wicketlaw16_BufferPlays : Nat := 3

def f_wicketlaw16_awake (n : Nat) (h : Heap) : Option ((Bool × Unit) × Heap) := yesB h
noncomputable def s_wicketlaw16_awake (n : Nat) : Sf1 := mkSf [] [(.tmp 0, .bool)] fun a h => f_wicketlaw16_awake n h
def PrimT_wicketlaw16_awake (T : Nat → Option AFun) : Prop := T k_wicketlaw16_awake = some ⟨[], .skip, some yes⟩
theorem primOk_wicketlaw16_awake {T : Nat → Option AFun} (hT : PrimT_wicketlaw16_awake T) (n : Nat) : Sf1Ok T k_wicketlaw16_awake (s_wicketlaw16_awake n) := yes_sf hT

def f_maps_Clone_map_int_api_Value_int_api_Value (n : Nat) (u0 : Value) (h : Heap) : Option ((Value × Unit) × Heap) := cloneB h u0
noncomputable def s_maps_Clone_map_int_api_Value_int_api_Value (n : Nat) : Sf1 := mkSf [.any] [(.tmp 0, .any)] fun a h => f_maps_Clone_map_int_api_Value_int_api_Value n a.1 h
def PrimT_maps_Clone_map_int_api_Value_int_api_Value (T : Nat → Option AFun) : Prop := T k_maps_Clone_map_int_api_Value_int_api_Value = some ⟨[], .skip, some cloneM⟩
theorem primOk_maps_Clone_map_int_api_Value_int_api_Value {T : Nat → Option AFun} (hT : PrimT_maps_Clone_map_int_api_Value_int_api_Value T) (n : Nat) : Sf1Ok T k_maps_Clone_map_int_api_Value_int_api_Value (s_maps_Clone_map_int_api_Value_int_api_Value n) := clone_sf hT

/- wicket/wicketref16.Same -/
def c2_wicketref16_Same : C2 :=
  .seq (.reg [(⟨(some 4), .move (.const (.bool false)), none⟩, .bool)]) <|
  .seq (.seq (.reg [(⟨(some 6), .move (.tmp 0), none⟩, .any),
        (⟨(some 7), .lenS (.tmp 6), none⟩, (.int .i64)),
        (⟨(some 8), .move (.tmp 1), none⟩, .any),
        (⟨(some 9), .lenS (.tmp 8), none⟩, (.int .i64)),
        (⟨(some 10), .bin .neq (.tmp 7) (.tmp 9), none⟩, .bool)]) <|
    .cond (.tmp 10)
      (.seq (.reg [(⟨(some 4), .move (.const (.bool false)), none⟩, .bool)]) <|
      .ret)
      (.skip)) <|
  .seq (.seq (.reg [(⟨(some 5), .move (.const (.int .i64 0)), none⟩, (.int .i64))]) <|
    .block 0 <|
      .loop [(5, (.int .i64))] <|
        .seq (.seq (.reg [(⟨(some 11), .move (.tmp 5), none⟩, (.int .i64)),
              (⟨(some 12), .move (.tmp 0), none⟩, .any),
              (⟨(some 13), .lenS (.tmp 12), none⟩, (.int .i64)),
              (⟨(some 14), .bin .lss (.tmp 11) (.tmp 13), none⟩, .bool)]) <|
          .cond (.tmp 14)
            (.skip)
            (.exit 0)) <|
        .seq (.block 1 <|
            .seq (.regd [(⟨0, [], false, ⟨(some 17), .move (.tmp 0), none⟩⟩, .any),
                (⟨1, [], false, ⟨(some 18), .move (.tmp 5), none⟩⟩, (.int .i64)),
                (⟨2, [0, 1], false, ⟨(some 19), .idxSlice 33 (.tmp 17) (.tmp 18), none⟩⟩, .ptr),
                (⟨3, [2, 0, 1], false, ⟨(some 20), .load true 33 (.tmp 19), none⟩⟩, .any),
                (⟨4, [], false, ⟨(some 21), .move (.tmp 1), none⟩⟩, .any),
                (⟨5, [], false, ⟨(some 22), .move (.tmp 5), none⟩⟩, (.int .i64)),
                (⟨6, [4, 5], false, ⟨(some 23), .idxSlice 33 (.tmp 21) (.tmp 22), none⟩⟩, .ptr),
                (⟨7, [6, 4, 5], false, ⟨(some 24), .load true 33 (.tmp 23), none⟩⟩, .any),
                (⟨8, [3, 7, 2, 0, 1, 6, 4, 5], false, ⟨(some 25), .eqv true (.agg (List.replicate 33 false)) (.tmp 20) (.tmp 24), none⟩⟩, .bool)]) <|
            .cond (.tmp 25)
              (.seq (.reg [(⟨(some 4), .move (.const (.bool false)), none⟩, .bool)]) <|
              .ret)
              (.skip)) <|
        .reg [(⟨(some 15), .move (.tmp 5), none⟩, (.int .i64)),
          (⟨(some 16), .bin .add (.tmp 15) (.const (.int .i64 1)), none⟩, (.int .i64)),
          (⟨(some 5), .move (.tmp 16), none⟩, (.int .i64))]) <|
  .seq (.reg [(⟨(some 4), .move (.const (.bool true)), none⟩, .bool)]) <|
  .ret
def f_wicketref16_Same_L10 (n : Nat) (u1 : Value) (u0 : Value) (v2 : Int) (h3 : Heap) : Option (((Int × Unit) × Heap) ⊕ ((Bool × Unit) × Heap)) :=
  (lenB u0).bind fun n4 =>
  bif (decide (v2 < (n4 : Int))) then
    ((ixB 33 u0 v2).bind fun q5 =>
    (ldA 33 h3 (some q5)).bind fun cs6 =>
    (ixB 33 u1 v2).bind fun q7 =>
    (ldA 33 h3 (some q7)).bind fun cs8 =>
    (eqVals h3 (.agg (List.replicate 33 false)) (.agg ⟨cs6⟩) (.agg ⟨cs8⟩)).bind fun b9 =>
    bif (!b9) then
      (some (.inr ((false, ()), h3)))
    else
      (some (.inl (((IntKind.i64.wrap (v2 + 1)), ()), h3))))
  else
    (some (.inr ((true, ()), h3)))
noncomputable def sf_wicketref16_Same (n : Nat) : Sf := sfOf []
noncomputable def it_wicketref16_Same (n : Nat) : It := itOf []
def f_wicketref16_Same (n : Nat) (u0 : Value) (u1 : Value) (h : Heap) : Option ((Bool × Unit) × Heap) :=
  (lenB u0).bind fun n0 =>
  (lenB u1).bind fun n1 =>
  bif (!decide ((n0 : Int) = (n1 : Int))) then
    (some ((false, ()), h))
  else
    (loopT (fun a => f_wicketref16_Same_L10 n u1 u0 a.1.1 a.2) n ((0, ()), h))
def rs_wicketref16_Same : Rs := [(.tmp 4, .bool)]
def ps_wicketref16_Same : List Ty := [.any, .any]
theorem e_wicketref16_Same (n : Nat) (u0 : Value) (u1 : Value) (h : Heap) : f_wicketref16_Same n u0 u1 h = fB (sf_wicketref16_Same n) (it_wicketref16_Same n) n c2_wicketref16_Same rs_wicketref16_Same ps_wicketref16_Same (u0, (u1, ())) h := by kernel_rfl
noncomputable def s_wicketref16_Same (n : Nat) : Sf1 := mkSf ps_wicketref16_Same rs_wicketref16_Same fun a h => f_wicketref16_Same n a.1 a.2.1 h

/- wicket/wicketlaw16.Apart -/
def c2_wicketlaw16_Apart : C2 :=
  .seq (.reg [(⟨none, .clrS, none⟩, .any)]) <|
  .seq (.reg [(⟨(some 2), .move (.const (.bool false)), none⟩, .bool)]) <|
  .seq (.cutn [] <|
      .seq (.reg [(⟨(some 3), .move (.const (.int .i64 0)), none⟩, (.int .i64))]) <|
      .block 0 <|
        .loop [(3, (.int .i64))] <|
          .seq (.seq (.reg [(⟨(some 14), .move (.tmp 3), none⟩, (.int .i64)),
                (⟨(some 15), .move (.tmp 0), none⟩, .any),
                (⟨(some 16), .lenS (.tmp 15), none⟩, (.int .i64)),
                (⟨(some 17), .bin .lss (.tmp 14) (.tmp 16), none⟩, .bool)]) <|
            .cond (.tmp 17)
              (.skip)
              (.exit 0)) <|
          .seq (.cutn [] <|
              .block 1 <|
                .seq (.reg [(⟨(some 4), .move (.const (.int .i64 0)), none⟩, (.int .i64))]) <|
                .block 2 <|
                  .loop [(4, (.int .i64))] <|
                    .seq (.seq (.reg [(⟨(some 20), .move (.tmp 4), none⟩, (.int .i64)),
                          (⟨(some 21), .move (.tmp 0), none⟩, .any),
                          (⟨(some 22), .move (.tmp 3), none⟩, (.int .i64)),
                          (⟨(some 23), .idxSlice 1 (.tmp 21) (.tmp 22), none⟩, .ptr),
                          (⟨(some 24), .loadS false 1 (.tmp 23), none⟩, .any),
                          (⟨(some 25), .lenS (.tmp 24), none⟩, (.int .i64)),
                          (⟨(some 26), .bin .lss (.tmp 20) (.tmp 25), none⟩, .bool)]) <|
                      .cond (.tmp 26)
                        (.skip)
                        (.exit 2)) <|
                    .seq (.block 3 <|
                        .reg [(⟨(some 29), .move (.tmp 0), none⟩, .any),
                          (⟨(some 30), .move (.tmp 3), none⟩, (.int .i64)),
                          (⟨(some 31), .idxSlice 1 (.tmp 29) (.tmp 30), none⟩, .ptr),
                          (⟨(some 32), .loadS false 1 (.tmp 31), none⟩, .any),
                          (⟨(some 33), .move (.tmp 4), none⟩, (.int .i64)),
                          (⟨(some 34), .move (.tmp 3), none⟩, (.int .i64)),
                          (⟨(some 35), .bin .sub (.const (.int .i64 (-1))) (.tmp 34), none⟩, (.int .i64)),
                          (⟨(some 36), .build [(.int .i64 0), (.int .u8 0), (.int .u8 0), (.int .u8 0), (.int .u8 0), (.int .u8 0), (.int .u8 0), (.int .u8 0), (.int .u8 0), (.int .u8 0), (.int .u8 0), (.int .u8 0), (.int .u8 0), (.int .u8 0), (.int .u8 0), (.int .u8 0), (.int .u8 0), (.int .u8 0), (.int .u8 0), (.int .u8 0), (.int .u8 0), (.int .u8 0), (.int .u8 0), (.int .u8 0), (.int .u8 0), (.int .u8 0), (.int .u8 0), (.int .u8 0), (.int .u8 0), (.int .u8 0), (.int .u8 0), (.int .u8 0), (.int .u8 0)] [(0, 1, (.tmp 35))], none⟩, .any),
                          (⟨(some 37), .idxSlice 33 (.tmp 32) (.tmp 33), none⟩, .ptr),
                          (⟨none, .store 33 (.tmp 37) (.tmp 36), none⟩, .any)]) <|
                    .reg [(⟨(some 27), .move (.tmp 4), none⟩, (.int .i64)),
                      (⟨(some 28), .bin .add (.tmp 27) (.const (.int .i64 1)), none⟩, (.int .i64)),
                      (⟨(some 4), .move (.tmp 28), none⟩, (.int .i64))]) <|
          .reg [(⟨(some 18), .move (.tmp 3), none⟩, (.int .i64)),
            (⟨(some 19), .bin .add (.tmp 18) (.const (.int .i64 1)), none⟩, (.int .i64)),
            (⟨(some 3), .move (.tmp 19), none⟩, (.int .i64))]) <|
  .seq (.reg [(⟨(some 5), .move (.const (.slice none 0 0)), none⟩, .any)]) <|
  .seq (.cutn [(5, .any)] <|
      .seq (.reg [(⟨(some 6), .move (.const (.int .i64 0)), none⟩, (.int .i64))]) <|
      .block 4 <|
        .loop [(5, .any), (6, (.int .i64))] <|
          .seq (.seq (.reg [(⟨(some 38), .move (.tmp 6), none⟩, (.int .i64)),
                (⟨(some 39), .move (.tmp 0), none⟩, .any),
                (⟨(some 40), .lenS (.tmp 39), none⟩, (.int .i64)),
                (⟨(some 41), .bin .lss (.tmp 38) (.tmp 40), none⟩, .bool)]) <|
            .cond (.tmp 41)
              (.skip)
              (.exit 4)) <|
          .seq (.cutn [(5, .any)] <|
              .block 5 <|
                .seq (.reg [(⟨(some 44), .move (.tmp 0), none⟩, .any),
                    (⟨(some 45), .move (.tmp 6), none⟩, (.int .i64)),
                    (⟨(some 46), .idxSlice 1 (.tmp 44) (.tmp 45), none⟩, .ptr),
                    (⟨(some 47), .loadS false 1 (.tmp 46), none⟩, .any),
                    (⟨(some 7), .move (.tmp 47), none⟩, .any)]) <|
                .seq (.cutn [(5, .any), (7, .any)] <|
                    .seq (.reg [(⟨(some 8), .move (.const (.int .i64 0)), none⟩, (.int .i64))]) <|
                    .block 6 <|
                      .loop [(5, .any), (7, .any), (8, (.int .i64))] <|
                        .seq (.seq (.reg [(⟨(some 48), .move (.tmp 8), none⟩, (.int .i64)),
                              (⟨(some 49), .bin .lss (.tmp 48) (.const (.int .i64 80)), none⟩, .bool)]) <|
                          .cond (.tmp 49)
                            (.skip)
                            (.exit 6)) <|
                        .seq (.cutn [(5, .any), (7, .any)] <|
                            .block 7 <|
                              .seq (.reg [(⟨(some 52), .move (.tmp 7), none⟩, .any),
                                  (⟨(some 53), .move (.tmp 6), none⟩, (.int .i64)),
                                  (⟨(some 54), .bin .sub (.const (.int .i64 (-1001))) (.tmp 53), none⟩, (.int .i64)),
                                  (⟨(some 55), .build [(.int .i64 0), (.int .u8 0), (.int .u8 0), (.int .u8 0), (.int .u8 0), (.int .u8 0), (.int .u8 0), (.int .u8 0), (.int .u8 0), (.int .u8 0), (.int .u8 0), (.int .u8 0), (.int .u8 0), (.int .u8 0), (.int .u8 0), (.int .u8 0), (.int .u8 0), (.int .u8 0), (.int .u8 0), (.int .u8 0), (.int .u8 0), (.int .u8 0), (.int .u8 0), (.int .u8 0), (.int .u8 0), (.int .u8 0), (.int .u8 0), (.int .u8 0), (.int .u8 0), (.int .u8 0), (.int .u8 0), (.int .u8 0), (.int .u8 0)] [(0, 1, (.tmp 54))], none⟩, .any),
                                  (⟨(some 56), .buildSlice 1 33 [(.int .i64 0), (.int .u8 0), (.int .u8 0), (.int .u8 0), (.int .u8 0), (.int .u8 0), (.int .u8 0), (.int .u8 0), (.int .u8 0), (.int .u8 0), (.int .u8 0), (.int .u8 0), (.int .u8 0), (.int .u8 0), (.int .u8 0), (.int .u8 0), (.int .u8 0), (.int .u8 0), (.int .u8 0), (.int .u8 0), (.int .u8 0), (.int .u8 0), (.int .u8 0), (.int .u8 0), (.int .u8 0), (.int .u8 0), (.int .u8 0), (.int .u8 0), (.int .u8 0), (.int .u8 0), (.int .u8 0), (.int .u8 0), (.int .u8 0)] [(0, 33, (.tmp 55))], none⟩, .any),
                                  (⟨(some 57), .appendS 40 33 (.tmp 52) (.tmp 56), none⟩, .any),
                                  (⟨(some 7), .move (.tmp 57), none⟩, .any)]) <|
                              .seq (.reg [(⟨(some 58), .move (.tmp 8), none⟩, (.int .i64)),
                                  (⟨(some 59), .bin .lss (.tmp 58) (.const (.int .i64 16)), none⟩, .bool)]) <|
                              .cond (.tmp 59)
                                (.reg [(⟨(some 60), .move (.tmp 5), none⟩, .any),
                                  (⟨(some 61), .move (.tmp 7), none⟩, .any),
                                  (⟨(some 62), .buildSlice 1 1 [(.slice none 0 0)] [(0, 1, (.tmp 61))], none⟩, .any),
                                  (⟨(some 63), .appendS 24 1 (.tmp 60) (.tmp 62), none⟩, .any),
                                  (⟨(some 5), .move (.tmp 63), none⟩, .any)])
                                (.skip)) <|
                        .reg [(⟨(some 50), .move (.tmp 8), none⟩, (.int .i64)),
                          (⟨(some 51), .bin .add (.tmp 50) (.const (.int .i64 1)), none⟩, (.int .i64)),
                          (⟨(some 8), .move (.tmp 51), none⟩, (.int .i64))]) <|
                .reg [(⟨(some 64), .move (.tmp 5), none⟩, .any),
                  (⟨(some 65), .move (.tmp 7), none⟩, .any),
                  (⟨(some 66), .buildSlice 1 1 [(.slice none 0 0)] [(0, 1, (.tmp 65))], none⟩, .any),
                  (⟨(some 67), .appendS 24 1 (.tmp 64) (.tmp 66), none⟩, .any),
                  (⟨(some 5), .move (.tmp 67), none⟩, .any)]) <|
          .reg [(⟨(some 42), .move (.tmp 6), none⟩, (.int .i64)),
            (⟨(some 43), .bin .add (.tmp 42) (.const (.int .i64 1)), none⟩, (.int .i64)),
            (⟨(some 6), .move (.tmp 43), none⟩, (.int .i64))]) <|
  .seq (.seq (.reg [(⟨(some 9), .move (.const (.int .i64 0)), none⟩, (.int .i64))]) <|
    .block 8 <|
      .loop [(9, (.int .i64))] <|
        .seq (.seq (.reg [(⟨(some 68), .move (.tmp 9), none⟩, (.int .i64)),
              (⟨(some 69), .move (.tmp 0), none⟩, .any),
              (⟨(some 70), .lenS (.tmp 69), none⟩, (.int .i64)),
              (⟨(some 71), .bin .lss (.tmp 68) (.tmp 70), none⟩, .bool)]) <|
          .cond (.tmp 71)
            (.skip)
            (.exit 8)) <|
        .seq (.cut [] <|
            .block 9 <|
              .seq (.cut [] <|
                  .seq (.reg [(⟨(some 10), .move (.const (.int .i64 0)), none⟩, (.int .i64))]) <|
                  .block 10 <|
                    .loop [(10, (.int .i64))] <|
                      .seq (.seq (.reg [(⟨(some 74), .move (.tmp 10), none⟩, (.int .i64)),
                            (⟨(some 75), .move (.tmp 0), none⟩, .any),
                            (⟨(some 76), .move (.tmp 9), none⟩, (.int .i64)),
                            (⟨(some 77), .idxSlice 1 (.tmp 75) (.tmp 76), none⟩, .ptr),
                            (⟨(some 78), .loadS false 1 (.tmp 77), none⟩, .any),
                            (⟨(some 79), .lenS (.tmp 78), none⟩, (.int .i64)),
                            (⟨(some 80), .bin .lss (.tmp 74) (.tmp 79), none⟩, .bool)]) <|
                        .cond (.tmp 80)
                          (.skip)
                          (.exit 10)) <|
                      .seq (.block 11 <|
                          .seq (.reg [(⟨(some 83), .move (.tmp 0), none⟩, .any),
                              (⟨(some 84), .move (.tmp 9), none⟩, (.int .i64)),
                              (⟨(some 85), .idxSlice 1 (.tmp 83) (.tmp 84), none⟩, .ptr),
                              (⟨(some 86), .loadS false 1 (.tmp 85), none⟩, .any),
                              (⟨(some 87), .move (.tmp 10), none⟩, (.int .i64)),
                              (⟨(some 88), .idxSlice 33 (.tmp 86) (.tmp 87), none⟩, .ptr),
                              (⟨(some 89), .loadS true 33 (.tmp 88), none⟩, .any),
                              (⟨(some 90), .move (.tmp 9), none⟩, (.int .i64)),
                              (⟨(some 91), .bin .sub (.const (.int .i64 (-1))) (.tmp 90), none⟩, (.int .i64)),
                              (⟨(some 92), .build [(.int .i64 0), (.int .u8 0), (.int .u8 0), (.int .u8 0), (.int .u8 0), (.int .u8 0), (.int .u8 0), (.int .u8 0), (.int .u8 0), (.int .u8 0), (.int .u8 0), (.int .u8 0), (.int .u8 0), (.int .u8 0), (.int .u8 0), (.int .u8 0), (.int .u8 0), (.int .u8 0), (.int .u8 0), (.int .u8 0), (.int .u8 0), (.int .u8 0), (.int .u8 0), (.int .u8 0), (.int .u8 0), (.int .u8 0), (.int .u8 0), (.int .u8 0), (.int .u8 0), (.int .u8 0), (.int .u8 0), (.int .u8 0), (.int .u8 0)] [(0, 1, (.tmp 91))], none⟩, .any),
                              (⟨(some 93), .eqv true (.agg (List.replicate 33 false)) (.tmp 89) (.tmp 92), none⟩, .bool)]) <|
                          .cond (.tmp 93)
                            (.seq (.reg [(⟨(some 2), .move (.const (.bool false)), none⟩, .bool)]) <|
                            .ret)
                            (.skip)) <|
                      .reg [(⟨(some 81), .move (.tmp 10), none⟩, (.int .i64)),
                        (⟨(some 82), .bin .add (.tmp 81) (.const (.int .i64 1)), none⟩, (.int .i64)),
                        (⟨(some 10), .move (.tmp 82), none⟩, (.int .i64))]) <|
              .seq (.reg [(⟨(some 11), .move (.const (.int .i64 0)), none⟩, (.int .i64))]) <|
              .block 12 <|
                .loop [(11, (.int .i64))] <|
                  .seq (.seq (.reg [(⟨(some 94), .move (.tmp 11), none⟩, (.int .i64)),
                        (⟨(some 95), .bin .lss (.tmp 94) (.const (.int .i64 17)), none⟩, .bool)]) <|
                    .cond (.tmp 95)
                      (.skip)
                      (.exit 12)) <|
                  .seq (.cut [] <|
                      .block 13 <|
                        .seq (.reg [(⟨(some 98), .move (.tmp 5), none⟩, .any),
                            (⟨(some 99), .move (.tmp 9), none⟩, (.int .i64)),
                            (⟨(some 100), .bin .mul (.const (.int .i64 17)) (.tmp 99), none⟩, (.int .i64)),
                            (⟨(some 101), .move (.tmp 11), none⟩, (.int .i64)),
                            (⟨(some 102), .bin .add (.tmp 100) (.tmp 101), none⟩, (.int .i64)),
                            (⟨(some 103), .idxSlice 1 (.tmp 98) (.tmp 102), none⟩, .ptr),
                            (⟨(some 104), .loadS false 1 (.tmp 103), none⟩, .any),
                            (⟨(some 12), .move (.tmp 104), none⟩, .any)]) <|
                        .seq (.reg [(⟨(some 105), .move (.tmp 0), none⟩, .any),
                            (⟨(some 106), .move (.tmp 9), none⟩, (.int .i64)),
                            (⟨(some 107), .idxSlice 1 (.tmp 105) (.tmp 106), none⟩, .ptr),
                            (⟨(some 108), .loadS false 1 (.tmp 107), none⟩, .any),
                            (⟨(some 109), .lenS (.tmp 108), none⟩, (.int .i64)),
                            (⟨(some 13), .move (.tmp 109), none⟩, (.int .i64))]) <|
                        .block 14 <|
                          .loop [(13, (.int .i64))] <|
                            .seq (.seq (.reg [(⟨(some 110), .move (.tmp 13), none⟩, (.int .i64)),
                                  (⟨(some 111), .move (.tmp 12), none⟩, .any),
                                  (⟨(some 112), .lenS (.tmp 111), none⟩, (.int .i64)),
                                  (⟨(some 113), .bin .lss (.tmp 110) (.tmp 112), none⟩, .bool)]) <|
                              .cond (.tmp 113)
                                (.skip)
                                (.exit 14)) <|
                            .seq (.block 15 <|
                                .seq (.reg [(⟨(some 116), .move (.tmp 12), none⟩, .any),
                                    (⟨(some 117), .move (.tmp 13), none⟩, (.int .i64)),
                                    (⟨(some 118), .idxSlice 33 (.tmp 116) (.tmp 117), none⟩, .ptr),
                                    (⟨(some 119), .loadS true 33 (.tmp 118), none⟩, .any),
                                    (⟨(some 120), .move (.tmp 9), none⟩, (.int .i64)),
                                    (⟨(some 121), .bin .sub (.const (.int .i64 (-1001))) (.tmp 120), none⟩, (.int .i64)),
                                    (⟨(some 122), .build [(.int .i64 0), (.int .u8 0), (.int .u8 0), (.int .u8 0), (.int .u8 0), (.int .u8 0), (.int .u8 0), (.int .u8 0), (.int .u8 0), (.int .u8 0), (.int .u8 0), (.int .u8 0), (.int .u8 0), (.int .u8 0), (.int .u8 0), (.int .u8 0), (.int .u8 0), (.int .u8 0), (.int .u8 0), (.int .u8 0), (.int .u8 0), (.int .u8 0), (.int .u8 0), (.int .u8 0), (.int .u8 0), (.int .u8 0), (.int .u8 0), (.int .u8 0), (.int .u8 0), (.int .u8 0), (.int .u8 0), (.int .u8 0), (.int .u8 0)] [(0, 1, (.tmp 121))], none⟩, .any),
                                    (⟨(some 123), .eqv true (.agg (List.replicate 33 false)) (.tmp 119) (.tmp 122), none⟩, .bool)]) <|
                                .cond (.tmp 123)
                                  (.seq (.reg [(⟨(some 2), .move (.const (.bool false)), none⟩, .bool)]) <|
                                  .ret)
                                  (.skip)) <|
                            .reg [(⟨(some 114), .move (.tmp 13), none⟩, (.int .i64)),
                              (⟨(some 115), .bin .add (.tmp 114) (.const (.int .i64 1)), none⟩, (.int .i64)),
                              (⟨(some 13), .move (.tmp 115), none⟩, (.int .i64))]) <|
                  .reg [(⟨(some 96), .move (.tmp 11), none⟩, (.int .i64)),
                    (⟨(some 97), .bin .add (.tmp 96) (.const (.int .i64 1)), none⟩, (.int .i64)),
                    (⟨(some 11), .move (.tmp 97), none⟩, (.int .i64))]) <|
        .reg [(⟨(some 72), .move (.tmp 9), none⟩, (.int .i64)),
          (⟨(some 73), .bin .add (.tmp 72) (.const (.int .i64 1)), none⟩, (.int .i64)),
          (⟨(some 9), .move (.tmp 73), none⟩, (.int .i64))]) <|
  .seq (.reg [(⟨(some 2), .move (.const (.bool true)), none⟩, .bool)]) <|
  .ret
def f_wicketlaw16_Apart_L14 (n : Nat) (u0 : Value) (v1 : Int) (v4 : Int) (h5 : Heap) : Option (((Int × Unit) × Heap) ⊕ ((Unit) × Heap)) :=
  (ixB 1 u0 v1).bind fun q6 =>
  (ldTS .any h5 (some q6)).bind fun x7 =>
  (lenB x7).bind fun n8 =>
  bif (decide (v4 < (n8 : Int))) then
    ((ixB 1 u0 v1).bind fun q9 =>
    (ldTS .any h5 (some q9)).bind fun x10 =>
    (fillL [(.int .i64 0), (.int .u8 0), (.int .u8 0), (.int .u8 0), (.int .u8 0), (.int .u8 0), (.int .u8 0), (.int .u8 0), (.int .u8 0), (.int .u8 0), (.int .u8 0), (.int .u8 0), (.int .u8 0), (.int .u8 0), (.int .u8 0), (.int .u8 0), (.int .u8 0), (.int .u8 0), (.int .u8 0), (.int .u8 0), (.int .u8 0), (.int .u8 0), (.int .u8 0), (.int .u8 0), (.int .u8 0), (.int .u8 0), (.int .u8 0), (.int .u8 0), (.int .u8 0), (.int .u8 0), (.int .u8 0), (.int .u8 0), (.int .u8 0)] [(0, 1, (.int .i64 (IntKind.i64.wrap ((-1) - v1))))]).bind fun cs11 =>
    (ixB 33 x10 v4).bind fun q12 =>
    (stB 33 (.agg ⟨cs11⟩) h5 (some q12)).bind fun h13 =>
    some (.inl (((IntKind.i64.wrap (v4 + 1)), ()), h13)))
  else
    (some (.inr ((), h5)))
def f_wicketlaw16_Apart_L16 (n : Nat) (u0 : Value) (v1 : Int) (h2 : Heap) : Option (((Int × Unit) × Heap) ⊕ ((Unit) × Heap)) :=
  (lenB u0).bind fun n3 =>
  bif (decide (v1 < (n3 : Int))) then
    (((loopT (fun a => f_wicketlaw16_Apart_L14 n u0 v1 a.1.1 a.2) n ((0, ()), h2)) : Option ((Unit) × Heap)).bind fun a15 =>
    some (.inl (((IntKind.i64.wrap (v1 + 1)), ()), a15.2)))
  else
    (some (.inr ((), h2)))
def f_wicketlaw16_Apart_L36 (n : Nat) (v19 : Int) (v24 : Value) (v25 : Value) (v26 : Int) (h27 : Heap) : Option (((Value × Value × Int × Unit) × Heap) ⊕ ((Value × Value × Unit) × Heap)) :=
  bif (decide (v26 < 80)) then
    ((((fillL [(.int .i64 0), (.int .u8 0), (.int .u8 0), (.int .u8 0), (.int .u8 0), (.int .u8 0), (.int .u8 0), (.int .u8 0), (.int .u8 0), (.int .u8 0), (.int .u8 0), (.int .u8 0), (.int .u8 0), (.int .u8 0), (.int .u8 0), (.int .u8 0), (.int .u8 0), (.int .u8 0), (.int .u8 0), (.int .u8 0), (.int .u8 0), (.int .u8 0), (.int .u8 0), (.int .u8 0), (.int .u8 0), (.int .u8 0), (.int .u8 0), (.int .u8 0), (.int .u8 0), (.int .u8 0), (.int .u8 0), (.int .u8 0), (.int .u8 0)] [(0, 1, (.int .i64 (IntKind.i64.wrap ((-1001) - v19))))]).bind fun cs28 =>
      (fillL [(.int .i64 0), (.int .u8 0), (.int .u8 0), (.int .u8 0), (.int .u8 0), (.int .u8 0), (.int .u8 0), (.int .u8 0), (.int .u8 0), (.int .u8 0), (.int .u8 0), (.int .u8 0), (.int .u8 0), (.int .u8 0), (.int .u8 0), (.int .u8 0), (.int .u8 0), (.int .u8 0), (.int .u8 0), (.int .u8 0), (.int .u8 0), (.int .u8 0), (.int .u8 0), (.int .u8 0), (.int .u8 0), (.int .u8 0), (.int .u8 0), (.int .u8 0), (.int .u8 0), (.int .u8 0), (.int .u8 0), (.int .u8 0), (.int .u8 0)] [(0, 33, (.agg ⟨cs28⟩))]).bind fun cs29 =>
      bnd ((Heap.new h27 (.cells cs29 false 33))) fun h30 =>
      (appendSK h30 40 33 v25 (.slice (some ⟨Heap.next h27, 0, some 0⟩) 1 1)).bind fun p31 =>
      bif (decide (v26 < 16)) then
        ((fillL [(.slice none 0 0)] [(0, 1, p31.1)]).bind fun cs32 =>
        bnd ((Heap.new p31.2 (.cells cs32 false 1))) fun h33 =>
        (appendSK h33 24 1 v24 (.slice (some ⟨Heap.next p31.2, 0, some 0⟩) 1 1)).bind fun p34 =>
        some ((p34.1, (p31.1, ())), p34.2))
      else
        (some ((v24, (p31.1, ())), p31.2))) : Option ((Value × Value × Unit) × Heap)).bind fun a35 =>
    some (.inl ((a35.1.1, (a35.1.2.1, ((IntKind.i64.wrap (v26 + 1)), ()))), a35.2)))
  else
    (some (.inr ((v24, (v25, ())), h27)))
def f_wicketlaw16_Apart_L42 (n : Nat) (u0 : Value) (v18 : Value) (v19 : Int) (h20 : Heap) : Option (((Value × Int × Unit) × Heap) ⊕ ((Value × Unit) × Heap)) :=
  (lenB u0).bind fun n21 =>
  bif (decide (v19 < (n21 : Int))) then
    ((((ixB 1 u0 v19).bind fun q22 =>
      (ldTS .any h20 (some q22)).bind fun x23 =>
      ((loopT (fun a => f_wicketlaw16_Apart_L36 n v19 a.1.1 a.1.2.1 a.1.2.2.1 a.2) n ((v18, (x23, (0, ()))), h20)) : Option ((Value × Value × Unit) × Heap)).bind fun a37 =>
      (fillL [(.slice none 0 0)] [(0, 1, a37.1.2.1)]).bind fun cs38 =>
      bnd ((Heap.new a37.2 (.cells cs38 false 1))) fun h39 =>
      (appendSK h39 24 1 a37.1.1 (.slice (some ⟨Heap.next a37.2, 0, some 0⟩) 1 1)).bind fun p40 =>
      some ((p40.1, ()), p40.2)) : Option ((Value × Unit) × Heap)).bind fun a41 =>
    some (.inl ((a41.1.1, ((IntKind.i64.wrap (v19 + 1)), ())), a41.2)))
  else
    (some (.inr ((v18, ()), h20)))
def f_wicketlaw16_Apart_L60 (n : Nat) (u0 : Value) (v44 : Int) (v49 : Int) (h50 : Heap) : Option (((Int × Unit) × Heap) ⊕ (((Unit) × Heap) ⊕ (((Unit) × Heap) ⊕ (((Int × Unit) × Heap) ⊕ ((Bool × Unit) × Heap))))) :=
  (ixB 1 u0 v44).bind fun q51 =>
  (ldTS .any h50 (some q51)).bind fun x52 =>
  (lenB x52).bind fun n53 =>
  bif (decide (v49 < (n53 : Int))) then
    ((ixB 1 u0 v44).bind fun q54 =>
    (ldTS .any h50 (some q54)).bind fun x55 =>
    (ixB 33 x55 v49).bind fun q56 =>
    (ldAS 33 h50 (some q56)).bind fun cs57 =>
    (fillL [(.int .i64 0), (.int .u8 0), (.int .u8 0), (.int .u8 0), (.int .u8 0), (.int .u8 0), (.int .u8 0), (.int .u8 0), (.int .u8 0), (.int .u8 0), (.int .u8 0), (.int .u8 0), (.int .u8 0), (.int .u8 0), (.int .u8 0), (.int .u8 0), (.int .u8 0), (.int .u8 0), (.int .u8 0), (.int .u8 0), (.int .u8 0), (.int .u8 0), (.int .u8 0), (.int .u8 0), (.int .u8 0), (.int .u8 0), (.int .u8 0), (.int .u8 0), (.int .u8 0), (.int .u8 0), (.int .u8 0), (.int .u8 0), (.int .u8 0)] [(0, 1, (.int .i64 (IntKind.i64.wrap ((-1) - v44))))]).bind fun cs58 =>
    (eqVals h50 (.agg (List.replicate 33 false)) (.agg ⟨cs57⟩) (.agg ⟨cs58⟩)).bind fun b59 =>
    bif (!b59) then
      (some (.inr (.inr (.inr (.inr ((false, ()), h50))))))
    else
      (some (.inl (((IntKind.i64.wrap (v49 + 1)), ()), h50))))
  else
    (some (.inr (.inl ((), h50))))
def f_wicketlaw16_Apart_C61 (n : Nat) (u0 : Value) (v44 : Int) (h48 : Heap) : Option (((Unit) × Heap) ⊕ (((Unit) × Heap) ⊕ (((Int × Unit) × Heap) ⊕ ((Bool × Unit) × Heap)))) :=
  loopT (fun a => f_wicketlaw16_Apart_L60 n u0 v44 a.1.1 a.2) n ((0, ()), h48)
def f_wicketlaw16_Apart_L78 (n : Nat) (v44 : Int) (x67 : Value) (v71 : Int) (h72 : Heap) : Option (((Int × Unit) × Heap) ⊕ (((Unit) × Heap) ⊕ (((Int × Unit) × Heap) ⊕ (((Unit) × Heap) ⊕ (((Int × Unit) × Heap) ⊕ ((Bool × Unit) × Heap)))))) :=
  (lenB x67).bind fun n73 =>
  bif (decide (v71 < (n73 : Int))) then
    ((ixB 33 x67 v71).bind fun q74 =>
    (ldAS 33 h72 (some q74)).bind fun cs75 =>
    (fillL [(.int .i64 0), (.int .u8 0), (.int .u8 0), (.int .u8 0), (.int .u8 0), (.int .u8 0), (.int .u8 0), (.int .u8 0), (.int .u8 0), (.int .u8 0), (.int .u8 0), (.int .u8 0), (.int .u8 0), (.int .u8 0), (.int .u8 0), (.int .u8 0), (.int .u8 0), (.int .u8 0), (.int .u8 0), (.int .u8 0), (.int .u8 0), (.int .u8 0), (.int .u8 0), (.int .u8 0), (.int .u8 0), (.int .u8 0), (.int .u8 0), (.int .u8 0), (.int .u8 0), (.int .u8 0), (.int .u8 0), (.int .u8 0), (.int .u8 0)] [(0, 1, (.int .i64 (IntKind.i64.wrap ((-1001) - v44))))]).bind fun cs76 =>
    (eqVals h72 (.agg (List.replicate 33 false)) (.agg ⟨cs75⟩) (.agg ⟨cs76⟩)).bind fun b77 =>
    bif (!b77) then
      (some (.inr (.inr (.inr (.inr (.inr ((false, ()), h72)))))))
    else
      (some (.inl (((IntKind.i64.wrap (v71 + 1)), ()), h72))))
  else
    (some (.inr (.inl ((), h72))))
def f_wicketlaw16_Apart_C79 (n : Nat) (u0 : Value) (a43 : ((Value × Unit) × Heap)) (v44 : Int) (v63 : Int) (h65 : Heap) : Option (((Unit) × Heap) ⊕ (((Int × Unit) × Heap) ⊕ (((Unit) × Heap) ⊕ (((Int × Unit) × Heap) ⊕ ((Bool × Unit) × Heap))))) :=
  (ixB 1 a43.1.1 (IntKind.i64.wrap ((IntKind.i64.wrap (17 * v44)) + v63))).bind fun q66 =>
  (ldTS .any h65 (some q66)).bind fun x67 =>
  (ixB 1 u0 v44).bind fun q68 =>
  (ldTS .any h65 (some q68)).bind fun x69 =>
  (lenB x69).bind fun n70 =>
  loopT (fun a => f_wicketlaw16_Apart_L78 n v44 x67 a.1.1 a.2) n (((n70 : Int), ()), h65)
def f_wicketlaw16_Apart_L81 (n : Nat) (u0 : Value) (a43 : ((Value × Unit) × Heap)) (v44 : Int) (v63 : Int) (h64 : Heap) : Option (((Int × Unit) × Heap) ⊕ (((Unit) × Heap) ⊕ (((Int × Unit) × Heap) ⊕ ((Bool × Unit) × Heap)))) :=
  bif (decide (v63 < 17)) then
    (thenB (f_wicketlaw16_Apart_C79 n u0 a43 v44 v63 (h64)) fun a80 =>
    some (.inl (((IntKind.i64.wrap (v63 + 1)), ()), a80.2)))
  else
    (some (.inr (.inl ((), h64))))
def f_wicketlaw16_Apart_C82 (n : Nat) (u0 : Value) (a43 : ((Value × Unit) × Heap)) (v44 : Int) (h47 : Heap) : Option (((Unit) × Heap) ⊕ (((Int × Unit) × Heap) ⊕ ((Bool × Unit) × Heap))) :=
  thenB (f_wicketlaw16_Apart_C61 n u0 v44 (h47)) fun a62 =>
  loopT (fun a => f_wicketlaw16_Apart_L81 n u0 a43 v44 a.1.1 a.2) n ((0, ()), a62.2)
def f_wicketlaw16_Apart_L84 (n : Nat) (u0 : Value) (a43 : ((Value × Unit) × Heap)) (v44 : Int) (h45 : Heap) : Option (((Int × Unit) × Heap) ⊕ ((Bool × Unit) × Heap)) :=
  (lenB u0).bind fun n46 =>
  bif (decide (v44 < (n46 : Int))) then
    (thenB (f_wicketlaw16_Apart_C82 n u0 a43 v44 (h45)) fun a83 =>
    some (.inl (((IntKind.i64.wrap (v44 + 1)), ()), a83.2)))
  else
    (some (.inr ((true, ()), h45)))
noncomputable def sf_wicketlaw16_Apart (n : Nat) : Sf := sfOf []
noncomputable def it_wicketlaw16_Apart (n : Nat) : It := itOf []
def f_wicketlaw16_Apart (n : Nat) (u0 : Value) (h : Heap) : Option ((Bool × Unit) × Heap) :=
  bnd ((clrH h)) fun h0 =>
  ((loopT (fun a => f_wicketlaw16_Apart_L16 n u0 a.1.1 a.2) n ((0, ()), h0)) : Option ((Unit) × Heap)).bind fun a17 =>
  ((loopT (fun a => f_wicketlaw16_Apart_L42 n u0 a.1.1 a.1.2.1 a.2) n (((.slice none 0 0), (0, ())), a17.2)) : Option ((Value × Unit) × Heap)).bind fun a43 =>
  loopT (fun a => f_wicketlaw16_Apart_L84 n u0 a43 a.1.1 a.2) n ((0, ()), a43.2)
def rs_wicketlaw16_Apart : Rs := [(.tmp 2, .bool)]
def ps_wicketlaw16_Apart : List Ty := [.any]
theorem e_wicketlaw16_Apart (n : Nat) (u0 : Value) (h : Heap) : f_wicketlaw16_Apart n u0 h = fB (sf_wicketlaw16_Apart n) (it_wicketlaw16_Apart n) n c2_wicketlaw16_Apart rs_wicketlaw16_Apart ps_wicketlaw16_Apart (u0, ()) h := by kernel_rfl
noncomputable def s_wicketlaw16_Apart (n : Nat) : Sf1 := mkSf ps_wicketlaw16_Apart rs_wicketlaw16_Apart fun a h => f_wicketlaw16_Apart n a.1 h

/- wicket/wicketlaw05.Apart -/
def c2_wicketlaw05_Apart : C2 :=
  .seq (.reg [(⟨none, .clrS, none⟩, .any)]) <|
  .seq (.reg [(⟨(some 2), .move (.const (.bool false)), none⟩, .bool)]) <|
  .seq (.cutn [] <|
      .seq (.reg [(⟨(some 3), .move (.const (.int .i64 0)), none⟩, (.int .i64))]) <|
      .block 0 <|
        .loop [(3, (.int .i64))] <|
          .seq (.seq (.reg [(⟨(some 14), .move (.tmp 3), none⟩, (.int .i64)),
                (⟨(some 15), .move (.tmp 0), none⟩, .any),
                (⟨(some 16), .lenS (.tmp 15), none⟩, (.int .i64)),
                (⟨(some 17), .bin .lss (.tmp 14) (.tmp 16), none⟩, .bool)]) <|
            .cond (.tmp 17)
              (.skip)
              (.exit 0)) <|
          .seq (.cutn [] <|
              .block 1 <|
                .seq (.reg [(⟨(some 4), .move (.const (.int .i64 0)), none⟩, (.int .i64))]) <|
                .block 2 <|
                  .loop [(4, (.int .i64))] <|
                    .seq (.seq (.reg [(⟨(some 20), .move (.tmp 4), none⟩, (.int .i64)),
                          (⟨(some 21), .move (.tmp 0), none⟩, .any),
                          (⟨(some 22), .move (.tmp 3), none⟩, (.int .i64)),
                          (⟨(some 23), .idxSlice 1 (.tmp 21) (.tmp 22), none⟩, .ptr),
                          (⟨(some 24), .loadS false 1 (.tmp 23), none⟩, .any),
                          (⟨(some 25), .lenS (.tmp 24), none⟩, (.int .i64)),
                          (⟨(some 26), .bin .lss (.tmp 20) (.tmp 25), none⟩, .bool)]) <|
                      .cond (.tmp 26)
                        (.skip)
                        (.exit 2)) <|
                    .seq (.block 3 <|
                        .reg [(⟨(some 29), .move (.tmp 0), none⟩, .any),
                          (⟨(some 30), .move (.tmp 3), none⟩, (.int .i64)),
                          (⟨(some 31), .idxSlice 1 (.tmp 29) (.tmp 30), none⟩, .ptr),
                          (⟨(some 32), .loadS false 1 (.tmp 31), none⟩, .any),
                          (⟨(some 33), .move (.tmp 4), none⟩, (.int .i64)),
                          (⟨(some 34), .move (.tmp 3), none⟩, (.int .i64)),
                          (⟨(some 35), .bin .sub (.const (.int .i64 (-1))) (.tmp 34), none⟩, (.int .i64)),
                          (⟨(some 36), .idxSlice 1 (.tmp 32) (.tmp 33), none⟩, .ptr),
                          (⟨none, .store 1 (.tmp 36) (.tmp 35), none⟩, .any)]) <|
                    .reg [(⟨(some 27), .move (.tmp 4), none⟩, (.int .i64)),
                      (⟨(some 28), .bin .add (.tmp 27) (.const (.int .i64 1)), none⟩, (.int .i64)),
                      (⟨(some 4), .move (.tmp 28), none⟩, (.int .i64))]) <|
          .reg [(⟨(some 18), .move (.tmp 3), none⟩, (.int .i64)),
            (⟨(some 19), .bin .add (.tmp 18) (.const (.int .i64 1)), none⟩, (.int .i64)),
            (⟨(some 3), .move (.tmp 19), none⟩, (.int .i64))]) <|
  .seq (.reg [(⟨(some 5), .move (.const (.slice none 0 0)), none⟩, .any)]) <|
  .seq (.cutn [(5, .any)] <|
      .seq (.reg [(⟨(some 6), .move (.const (.int .i64 0)), none⟩, (.int .i64))]) <|
      .block 4 <|
        .loop [(5, .any), (6, (.int .i64))] <|
          .seq (.seq (.reg [(⟨(some 37), .move (.tmp 6), none⟩, (.int .i64)),
                (⟨(some 38), .move (.tmp 0), none⟩, .any),
                (⟨(some 39), .lenS (.tmp 38), none⟩, (.int .i64)),
                (⟨(some 40), .bin .lss (.tmp 37) (.tmp 39), none⟩, .bool)]) <|
            .cond (.tmp 40)
              (.skip)
              (.exit 4)) <|
          .seq (.cutn [(5, .any)] <|
              .block 5 <|
                .seq (.reg [(⟨(some 43), .move (.tmp 0), none⟩, .any),
                    (⟨(some 44), .move (.tmp 6), none⟩, (.int .i64)),
                    (⟨(some 45), .idxSlice 1 (.tmp 43) (.tmp 44), none⟩, .ptr),
                    (⟨(some 46), .loadS false 1 (.tmp 45), none⟩, .any),
                    (⟨(some 7), .move (.tmp 46), none⟩, .any)]) <|
                .seq (.cutn [(5, .any), (7, .any)] <|
                    .seq (.reg [(⟨(some 8), .move (.const (.int .i64 0)), none⟩, (.int .i64))]) <|
                    .block 6 <|
                      .loop [(5, .any), (7, .any), (8, (.int .i64))] <|
                        .seq (.seq (.reg [(⟨(some 47), .move (.tmp 8), none⟩, (.int .i64)),
                              (⟨(some 48), .bin .lss (.tmp 47) (.const (.int .i64 80)), none⟩, .bool)]) <|
                          .cond (.tmp 48)
                            (.skip)
                            (.exit 6)) <|
                        .seq (.cutn [(5, .any), (7, .any)] <|
                            .block 7 <|
                              .seq (.reg [(⟨(some 51), .move (.tmp 7), none⟩, .any),
                                  (⟨(some 52), .move (.tmp 6), none⟩, (.int .i64)),
                                  (⟨(some 53), .bin .sub (.const (.int .i64 (-1001))) (.tmp 52), none⟩, (.int .i64)),
                                  (⟨(some 54), .buildSlice 1 1 [(.int .i64 0)] [(0, 1, (.tmp 53))], none⟩, .any),
                                  (⟨(some 55), .appendS 8 1 (.tmp 51) (.tmp 54), none⟩, .any),
                                  (⟨(some 7), .move (.tmp 55), none⟩, .any)]) <|
                              .seq (.reg [(⟨(some 56), .move (.tmp 8), none⟩, (.int .i64)),
                                  (⟨(some 57), .bin .lss (.tmp 56) (.const (.int .i64 16)), none⟩, .bool)]) <|
                              .cond (.tmp 57)
                                (.reg [(⟨(some 58), .move (.tmp 5), none⟩, .any),
                                  (⟨(some 59), .move (.tmp 7), none⟩, .any),
                                  (⟨(some 60), .buildSlice 1 1 [(.slice none 0 0)] [(0, 1, (.tmp 59))], none⟩, .any),
                                  (⟨(some 61), .appendS 24 1 (.tmp 58) (.tmp 60), none⟩, .any),
                                  (⟨(some 5), .move (.tmp 61), none⟩, .any)])
                                (.skip)) <|
                        .reg [(⟨(some 49), .move (.tmp 8), none⟩, (.int .i64)),
                          (⟨(some 50), .bin .add (.tmp 49) (.const (.int .i64 1)), none⟩, (.int .i64)),
                          (⟨(some 8), .move (.tmp 50), none⟩, (.int .i64))]) <|
                .reg [(⟨(some 62), .move (.tmp 5), none⟩, .any),
                  (⟨(some 63), .move (.tmp 7), none⟩, .any),
                  (⟨(some 64), .buildSlice 1 1 [(.slice none 0 0)] [(0, 1, (.tmp 63))], none⟩, .any),
                  (⟨(some 65), .appendS 24 1 (.tmp 62) (.tmp 64), none⟩, .any),
                  (⟨(some 5), .move (.tmp 65), none⟩, .any)]) <|
          .reg [(⟨(some 41), .move (.tmp 6), none⟩, (.int .i64)),
            (⟨(some 42), .bin .add (.tmp 41) (.const (.int .i64 1)), none⟩, (.int .i64)),
            (⟨(some 6), .move (.tmp 42), none⟩, (.int .i64))]) <|
  .seq (.seq (.reg [(⟨(some 9), .move (.const (.int .i64 0)), none⟩, (.int .i64))]) <|
    .block 8 <|
      .loop [(9, (.int .i64))] <|
        .seq (.seq (.reg [(⟨(some 66), .move (.tmp 9), none⟩, (.int .i64)),
              (⟨(some 67), .move (.tmp 0), none⟩, .any),
              (⟨(some 68), .lenS (.tmp 67), none⟩, (.int .i64)),
              (⟨(some 69), .bin .lss (.tmp 66) (.tmp 68), none⟩, .bool)]) <|
          .cond (.tmp 69)
            (.skip)
            (.exit 8)) <|
        .seq (.cut [] <|
            .block 9 <|
              .seq (.cut [] <|
                  .seq (.reg [(⟨(some 10), .move (.const (.int .i64 0)), none⟩, (.int .i64))]) <|
                  .block 10 <|
                    .loop [(10, (.int .i64))] <|
                      .seq (.seq (.reg [(⟨(some 72), .move (.tmp 10), none⟩, (.int .i64)),
                            (⟨(some 73), .move (.tmp 0), none⟩, .any),
                            (⟨(some 74), .move (.tmp 9), none⟩, (.int .i64)),
                            (⟨(some 75), .idxSlice 1 (.tmp 73) (.tmp 74), none⟩, .ptr),
                            (⟨(some 76), .loadS false 1 (.tmp 75), none⟩, .any),
                            (⟨(some 77), .lenS (.tmp 76), none⟩, (.int .i64)),
                            (⟨(some 78), .bin .lss (.tmp 72) (.tmp 77), none⟩, .bool)]) <|
                        .cond (.tmp 78)
                          (.skip)
                          (.exit 10)) <|
                      .seq (.block 11 <|
                          .seq (.reg [(⟨(some 81), .move (.tmp 0), none⟩, .any),
                              (⟨(some 82), .move (.tmp 9), none⟩, (.int .i64)),
                              (⟨(some 83), .idxSlice 1 (.tmp 81) (.tmp 82), none⟩, .ptr),
                              (⟨(some 84), .loadS false 1 (.tmp 83), none⟩, .any),
                              (⟨(some 85), .move (.tmp 10), none⟩, (.int .i64)),
                              (⟨(some 86), .idxSlice 1 (.tmp 84) (.tmp 85), none⟩, .ptr),
                              (⟨(some 87), .loadS false 1 (.tmp 86), none⟩, (.int .i64)),
                              (⟨(some 88), .move (.tmp 9), none⟩, (.int .i64)),
                              (⟨(some 89), .bin .sub (.const (.int .i64 (-1))) (.tmp 88), none⟩, (.int .i64)),
                              (⟨(some 90), .bin .neq (.tmp 87) (.tmp 89), none⟩, .bool)]) <|
                          .cond (.tmp 90)
                            (.seq (.reg [(⟨(some 2), .move (.const (.bool false)), none⟩, .bool)]) <|
                            .ret)
                            (.skip)) <|
                      .reg [(⟨(some 79), .move (.tmp 10), none⟩, (.int .i64)),
                        (⟨(some 80), .bin .add (.tmp 79) (.const (.int .i64 1)), none⟩, (.int .i64)),
                        (⟨(some 10), .move (.tmp 80), none⟩, (.int .i64))]) <|
              .seq (.reg [(⟨(some 11), .move (.const (.int .i64 0)), none⟩, (.int .i64))]) <|
              .block 12 <|
                .loop [(11, (.int .i64))] <|
                  .seq (.seq (.reg [(⟨(some 91), .move (.tmp 11), none⟩, (.int .i64)),
                        (⟨(some 92), .bin .lss (.tmp 91) (.const (.int .i64 17)), none⟩, .bool)]) <|
                    .cond (.tmp 92)
                      (.skip)
                      (.exit 12)) <|
                  .seq (.cut [] <|
                      .block 13 <|
                        .seq (.reg [(⟨(some 95), .move (.tmp 5), none⟩, .any),
                            (⟨(some 96), .move (.tmp 9), none⟩, (.int .i64)),
                            (⟨(some 97), .bin .mul (.const (.int .i64 17)) (.tmp 96), none⟩, (.int .i64)),
                            (⟨(some 98), .move (.tmp 11), none⟩, (.int .i64)),
                            (⟨(some 99), .bin .add (.tmp 97) (.tmp 98), none⟩, (.int .i64)),
                            (⟨(some 100), .idxSlice 1 (.tmp 95) (.tmp 99), none⟩, .ptr),
                            (⟨(some 101), .loadS false 1 (.tmp 100), none⟩, .any),
                            (⟨(some 12), .move (.tmp 101), none⟩, .any)]) <|
                        .seq (.reg [(⟨(some 102), .move (.tmp 0), none⟩, .any),
                            (⟨(some 103), .move (.tmp 9), none⟩, (.int .i64)),
                            (⟨(some 104), .idxSlice 1 (.tmp 102) (.tmp 103), none⟩, .ptr),
                            (⟨(some 105), .loadS false 1 (.tmp 104), none⟩, .any),
                            (⟨(some 106), .lenS (.tmp 105), none⟩, (.int .i64)),
                            (⟨(some 13), .move (.tmp 106), none⟩, (.int .i64))]) <|
                        .block 14 <|
                          .loop [(13, (.int .i64))] <|
                            .seq (.seq (.reg [(⟨(some 107), .move (.tmp 13), none⟩, (.int .i64)),
                                  (⟨(some 108), .move (.tmp 12), none⟩, .any),
                                  (⟨(some 109), .lenS (.tmp 108), none⟩, (.int .i64)),
                                  (⟨(some 110), .bin .lss (.tmp 107) (.tmp 109), none⟩, .bool)]) <|
                              .cond (.tmp 110)
                                (.skip)
                                (.exit 14)) <|
                            .seq (.block 15 <|
                                .seq (.reg [(⟨(some 113), .move (.tmp 12), none⟩, .any),
                                    (⟨(some 114), .move (.tmp 13), none⟩, (.int .i64)),
                                    (⟨(some 115), .idxSlice 1 (.tmp 113) (.tmp 114), none⟩, .ptr),
                                    (⟨(some 116), .loadS false 1 (.tmp 115), none⟩, (.int .i64)),
                                    (⟨(some 117), .move (.tmp 9), none⟩, (.int .i64)),
                                    (⟨(some 118), .bin .sub (.const (.int .i64 (-1001))) (.tmp 117), none⟩, (.int .i64)),
                                    (⟨(some 119), .bin .neq (.tmp 116) (.tmp 118), none⟩, .bool)]) <|
                                .cond (.tmp 119)
                                  (.seq (.reg [(⟨(some 2), .move (.const (.bool false)), none⟩, .bool)]) <|
                                  .ret)
                                  (.skip)) <|
                            .reg [(⟨(some 111), .move (.tmp 13), none⟩, (.int .i64)),
                              (⟨(some 112), .bin .add (.tmp 111) (.const (.int .i64 1)), none⟩, (.int .i64)),
                              (⟨(some 13), .move (.tmp 112), none⟩, (.int .i64))]) <|
                  .reg [(⟨(some 93), .move (.tmp 11), none⟩, (.int .i64)),
                    (⟨(some 94), .bin .add (.tmp 93) (.const (.int .i64 1)), none⟩, (.int .i64)),
                    (⟨(some 11), .move (.tmp 94), none⟩, (.int .i64))]) <|
        .reg [(⟨(some 70), .move (.tmp 9), none⟩, (.int .i64)),
          (⟨(some 71), .bin .add (.tmp 70) (.const (.int .i64 1)), none⟩, (.int .i64)),
          (⟨(some 9), .move (.tmp 71), none⟩, (.int .i64))]) <|
  .seq (.reg [(⟨(some 2), .move (.const (.bool true)), none⟩, .bool)]) <|
  .ret
def f_wicketlaw05_Apart_L13 (n : Nat) (u0 : Value) (v1 : Int) (v4 : Int) (h5 : Heap) : Option (((Int × Unit) × Heap) ⊕ ((Unit) × Heap)) :=
  (ixB 1 u0 v1).bind fun q6 =>
  (ldTS .any h5 (some q6)).bind fun x7 =>
  (lenB x7).bind fun n8 =>
  bif (decide (v4 < (n8 : Int))) then
    ((ixB 1 u0 v1).bind fun q9 =>
    (ldTS .any h5 (some q9)).bind fun x10 =>
    (ixB 1 x10 v4).bind fun q11 =>
    (stB 1 (.int .i64 (IntKind.i64.wrap ((-1) - v1))) h5 (some q11)).bind fun h12 =>
    some (.inl (((IntKind.i64.wrap (v4 + 1)), ()), h12)))
  else
    (some (.inr ((), h5)))
def f_wicketlaw05_Apart_L15 (n : Nat) (u0 : Value) (v1 : Int) (h2 : Heap) : Option (((Int × Unit) × Heap) ⊕ ((Unit) × Heap)) :=
  (lenB u0).bind fun n3 =>
  bif (decide (v1 < (n3 : Int))) then
    (((loopT (fun a => f_wicketlaw05_Apart_L13 n u0 v1 a.1.1 a.2) n ((0, ()), h2)) : Option ((Unit) × Heap)).bind fun a14 =>
    some (.inl (((IntKind.i64.wrap (v1 + 1)), ()), a14.2)))
  else
    (some (.inr ((), h2)))
def f_wicketlaw05_Apart_L34 (n : Nat) (v18 : Int) (v23 : Value) (v24 : Value) (v25 : Int) (h26 : Heap) : Option (((Value × Value × Int × Unit) × Heap) ⊕ ((Value × Value × Unit) × Heap)) :=
  bif (decide (v25 < 80)) then
    ((((fillL [(.int .i64 0)] [(0, 1, (.int .i64 (IntKind.i64.wrap ((-1001) - v18))))]).bind fun cs27 =>
      bnd ((Heap.new h26 (.cells cs27 false 1))) fun h28 =>
      (appendSK h28 8 1 v24 (.slice (some ⟨Heap.next h26, 0, some 0⟩) 1 1)).bind fun p29 =>
      bif (decide (v25 < 16)) then
        ((fillL [(.slice none 0 0)] [(0, 1, p29.1)]).bind fun cs30 =>
        bnd ((Heap.new p29.2 (.cells cs30 false 1))) fun h31 =>
        (appendSK h31 24 1 v23 (.slice (some ⟨Heap.next p29.2, 0, some 0⟩) 1 1)).bind fun p32 =>
        some ((p32.1, (p29.1, ())), p32.2))
      else
        (some ((v23, (p29.1, ())), p29.2))) : Option ((Value × Value × Unit) × Heap)).bind fun a33 =>
    some (.inl ((a33.1.1, (a33.1.2.1, ((IntKind.i64.wrap (v25 + 1)), ()))), a33.2)))
  else
    (some (.inr ((v23, (v24, ())), h26)))
def f_wicketlaw05_Apart_L40 (n : Nat) (u0 : Value) (v17 : Value) (v18 : Int) (h19 : Heap) : Option (((Value × Int × Unit) × Heap) ⊕ ((Value × Unit) × Heap)) :=
  (lenB u0).bind fun n20 =>
  bif (decide (v18 < (n20 : Int))) then
    ((((ixB 1 u0 v18).bind fun q21 =>
      (ldTS .any h19 (some q21)).bind fun x22 =>
      ((loopT (fun a => f_wicketlaw05_Apart_L34 n v18 a.1.1 a.1.2.1 a.1.2.2.1 a.2) n ((v17, (x22, (0, ()))), h19)) : Option ((Value × Value × Unit) × Heap)).bind fun a35 =>
      (fillL [(.slice none 0 0)] [(0, 1, a35.1.2.1)]).bind fun cs36 =>
      bnd ((Heap.new a35.2 (.cells cs36 false 1))) fun h37 =>
      (appendSK h37 24 1 a35.1.1 (.slice (some ⟨Heap.next a35.2, 0, some 0⟩) 1 1)).bind fun p38 =>
      some ((p38.1, ()), p38.2)) : Option ((Value × Unit) × Heap)).bind fun a39 =>
    some (.inl ((a39.1.1, ((IntKind.i64.wrap (v18 + 1)), ())), a39.2)))
  else
    (some (.inr ((v17, ()), h19)))
def f_wicketlaw05_Apart_L56 (n : Nat) (u0 : Value) (v42 : Int) (v47 : Int) (h48 : Heap) : Option (((Int × Unit) × Heap) ⊕ (((Unit) × Heap) ⊕ (((Unit) × Heap) ⊕ (((Int × Unit) × Heap) ⊕ ((Bool × Unit) × Heap))))) :=
  (ixB 1 u0 v42).bind fun q49 =>
  (ldTS .any h48 (some q49)).bind fun x50 =>
  (lenB x50).bind fun n51 =>
  bif (decide (v47 < (n51 : Int))) then
    ((ixB 1 u0 v42).bind fun q52 =>
    (ldTS .any h48 (some q52)).bind fun x53 =>
    (ixB 1 x53 v47).bind fun q54 =>
    (ldTS (.int .i64) h48 (some q54)).bind fun x55 =>
    bif (!decide (x55 = (IntKind.i64.wrap ((-1) - v42)))) then
      (some (.inr (.inr (.inr (.inr ((false, ()), h48))))))
    else
      (some (.inl (((IntKind.i64.wrap (v47 + 1)), ()), h48))))
  else
    (some (.inr (.inl ((), h48))))
def f_wicketlaw05_Apart_C57 (n : Nat) (u0 : Value) (v42 : Int) (h46 : Heap) : Option (((Unit) × Heap) ⊕ (((Unit) × Heap) ⊕ (((Int × Unit) × Heap) ⊕ ((Bool × Unit) × Heap)))) :=
  loopT (fun a => f_wicketlaw05_Apart_L56 n u0 v42 a.1.1 a.2) n ((0, ()), h46)
def f_wicketlaw05_Apart_L72 (n : Nat) (v42 : Int) (x63 : Value) (v67 : Int) (h68 : Heap) : Option (((Int × Unit) × Heap) ⊕ (((Unit) × Heap) ⊕ (((Int × Unit) × Heap) ⊕ (((Unit) × Heap) ⊕ (((Int × Unit) × Heap) ⊕ ((Bool × Unit) × Heap)))))) :=
  (lenB x63).bind fun n69 =>
  bif (decide (v67 < (n69 : Int))) then
    ((ixB 1 x63 v67).bind fun q70 =>
    (ldTS (.int .i64) h68 (some q70)).bind fun x71 =>
    bif (!decide (x71 = (IntKind.i64.wrap ((-1001) - v42)))) then
      (some (.inr (.inr (.inr (.inr (.inr ((false, ()), h68)))))))
    else
      (some (.inl (((IntKind.i64.wrap (v67 + 1)), ()), h68))))
  else
    (some (.inr (.inl ((), h68))))
def f_wicketlaw05_Apart_C73 (n : Nat) (u0 : Value) (a41 : ((Value × Unit) × Heap)) (v42 : Int) (v59 : Int) (h61 : Heap) : Option (((Unit) × Heap) ⊕ (((Int × Unit) × Heap) ⊕ (((Unit) × Heap) ⊕ (((Int × Unit) × Heap) ⊕ ((Bool × Unit) × Heap))))) :=
  (ixB 1 a41.1.1 (IntKind.i64.wrap ((IntKind.i64.wrap (17 * v42)) + v59))).bind fun q62 =>
  (ldTS .any h61 (some q62)).bind fun x63 =>
  (ixB 1 u0 v42).bind fun q64 =>
  (ldTS .any h61 (some q64)).bind fun x65 =>
  (lenB x65).bind fun n66 =>
  loopT (fun a => f_wicketlaw05_Apart_L72 n v42 x63 a.1.1 a.2) n (((n66 : Int), ()), h61)
def f_wicketlaw05_Apart_L75 (n : Nat) (u0 : Value) (a41 : ((Value × Unit) × Heap)) (v42 : Int) (v59 : Int) (h60 : Heap) : Option (((Int × Unit) × Heap) ⊕ (((Unit) × Heap) ⊕ (((Int × Unit) × Heap) ⊕ ((Bool × Unit) × Heap)))) :=
  bif (decide (v59 < 17)) then
    (thenB (f_wicketlaw05_Apart_C73 n u0 a41 v42 v59 (h60)) fun a74 =>
    some (.inl (((IntKind.i64.wrap (v59 + 1)), ()), a74.2)))
  else
    (some (.inr (.inl ((), h60))))
def f_wicketlaw05_Apart_C76 (n : Nat) (u0 : Value) (a41 : ((Value × Unit) × Heap)) (v42 : Int) (h45 : Heap) : Option (((Unit) × Heap) ⊕ (((Int × Unit) × Heap) ⊕ ((Bool × Unit) × Heap))) :=
  thenB (f_wicketlaw05_Apart_C57 n u0 v42 (h45)) fun a58 =>
  loopT (fun a => f_wicketlaw05_Apart_L75 n u0 a41 v42 a.1.1 a.2) n ((0, ()), a58.2)
def f_wicketlaw05_Apart_L78 (n : Nat) (u0 : Value) (a41 : ((Value × Unit) × Heap)) (v42 : Int) (h43 : Heap) : Option (((Int × Unit) × Heap) ⊕ ((Bool × Unit) × Heap)) :=
  (lenB u0).bind fun n44 =>
  bif (decide (v42 < (n44 : Int))) then
    (thenB (f_wicketlaw05_Apart_C76 n u0 a41 v42 (h43)) fun a77 =>
    some (.inl (((IntKind.i64.wrap (v42 + 1)), ()), a77.2)))
  else
    (some (.inr ((true, ()), h43)))
noncomputable def sf_wicketlaw05_Apart (n : Nat) : Sf := sfOf []
noncomputable def it_wicketlaw05_Apart (n : Nat) : It := itOf []
def f_wicketlaw05_Apart (n : Nat) (u0 : Value) (h : Heap) : Option ((Bool × Unit) × Heap) :=
  bnd ((clrH h)) fun h0 =>
  ((loopT (fun a => f_wicketlaw05_Apart_L15 n u0 a.1.1 a.2) n ((0, ()), h0)) : Option ((Unit) × Heap)).bind fun a16 =>
  ((loopT (fun a => f_wicketlaw05_Apart_L40 n u0 a.1.1 a.1.2.1 a.2) n (((.slice none 0 0), (0, ())), a16.2)) : Option ((Value × Unit) × Heap)).bind fun a41 =>
  loopT (fun a => f_wicketlaw05_Apart_L78 n u0 a41 a.1.1 a.2) n ((0, ()), a41.2)
def rs_wicketlaw05_Apart : Rs := [(.tmp 2, .bool)]
def ps_wicketlaw05_Apart : List Ty := [.any]
theorem e_wicketlaw05_Apart (n : Nat) (u0 : Value) (h : Heap) : f_wicketlaw05_Apart n u0 h = fB (sf_wicketlaw05_Apart n) (it_wicketlaw05_Apart n) n c2_wicketlaw05_Apart rs_wicketlaw05_Apart ps_wicketlaw05_Apart (u0, ()) h := by kernel_rfl
noncomputable def s_wicketlaw05_Apart (n : Nat) : Sf1 := mkSf ps_wicketlaw05_Apart rs_wicketlaw05_Apart fun a h => f_wicketlaw05_Apart n a.1 h

/- (*wicket/buffer.Buffer).Len -/
def c2_buffer_Buffer_Len : C2 :=
  .seq (.reg [(⟨(some 2), .move (.const (.int .i64 0)), none⟩, (.int .i64))]) <|
  .seq (.seq (.reg [(⟨(some 3), .move (.tmp 0), none⟩, .ptr),
        (⟨(some 4), .eqv false .ptr (.tmp 3) (.const (.pointer none)), none⟩, .bool)]) <|
    .cond (.tmp 4)
      (.seq (.reg [(⟨(some 2), .move (.const (.int .i64 0)), none⟩, (.int .i64))]) <|
      .ret)
      (.skip)) <|
  .seq (.reg [(⟨(some 5), .move (.tmp 0), none⟩, .ptr),
      (⟨(some 6), .nilCheck (.tmp 5), none⟩, .ptr),
      (⟨(some 7), .fieldAddr 1 (.tmp 6), none⟩, .ptr),
      (⟨(some 8), .load false 1 (.tmp 7), none⟩, .any),
      (⟨(some 9), .lenM (.tmp 8), none⟩, (.int .i64)),
      (⟨(some 2), .move (.tmp 9), none⟩, (.int .i64))]) <|
  .ret
noncomputable def sf_buffer_Buffer_Len (n : Nat) : Sf := sfOf []
noncomputable def it_buffer_Buffer_Len (n : Nat) : It := itOf []
def f_buffer_Buffer_Len (n : Nat) (u0 : Option Addr) (h : Heap) : Option ((Int × Unit) × Heap) :=
  bif (Option.isNone u0) then
    (some ((0, ()), h))
  else
    ((u0).bind fun q0 =>
    (ldT .any h (some (fa q0 1))).bind fun x1 =>
    (lenMB h x1).bind fun n2 =>
    some (((n2 : Int), ()), h))
def rs_buffer_Buffer_Len : Rs := [(.tmp 2, (.int .i64))]
def ps_buffer_Buffer_Len : List Ty := [.ptr]
theorem e_buffer_Buffer_Len (n : Nat) (u0 : Option Addr) (h : Heap) : f_buffer_Buffer_Len n u0 h = fB (sf_buffer_Buffer_Len n) (it_buffer_Buffer_Len n) n c2_buffer_Buffer_Len rs_buffer_Buffer_Len ps_buffer_Buffer_Len (u0, ()) h := by kernel_rfl
noncomputable def s_buffer_Buffer_Len (n : Nat) : Sf1 := mkSf ps_buffer_Buffer_Len rs_buffer_Buffer_Len fun a h => f_buffer_Buffer_Len n a.1 h

/- (*wicket/buffer.Buffer).Images -/
def c2_buffer_Buffer_Images : C2 :=
  .seq (.reg [(⟨(some 2), .move (.const (.slice none 0 0)), none⟩, .any)]) <|
  .seq (.seq (.reg [(⟨(some 8), .move (.tmp 0), none⟩, .ptr),
        (⟨(some 9), .eqv false .ptr (.tmp 8) (.const (.pointer none)), none⟩, .bool)]) <|
    .cond (.tmp 9)
      (.seq (.reg [(⟨(some 2), .move (.const (.slice none 0 0)), none⟩, .any)]) <|
      .ret)
      (.skip)) <|
  .seq (.reg [(⟨(some 3), .move (.const (.slice none 0 0)), none⟩, .any)]) <|
  .seq (.seq (.reg [(⟨(some 10), .move (.tmp 0), none⟩, .ptr),
        (⟨(some 11), .nilCheck (.tmp 10), none⟩, .ptr),
        (⟨(some 12), .fieldAddr 0 (.tmp 11), none⟩, .ptr),
        (⟨(some 13), .load false 1 (.tmp 12), none⟩, .any),
        (⟨(some 14), .lenS (.tmp 13), none⟩, (.int .i64)),
        (⟨(some 15), .move (.const (.int .i64 0)), none⟩, (.int .i64))]) <|
    .block 0 <|
      .loop [(3, .any), (15, (.int .i64))] <|
        .seq (.reg [(⟨(some 16), .bin .lss (.tmp 15) (.tmp 14), none⟩, .any)]) <|
        .seq (.cond (.tmp 16)
            (.skip)
            (.exit 0)) <|
        .seq (.cutn [(3, .any)] <|
            .block 1 <|
              .seq (.reg [(⟨(some 17), .idxSlice 1 (.tmp 13) (.tmp 15), none⟩, .ptr),
                  (⟨(some 18), .load false 1 (.tmp 17), none⟩, (.int .i64)),
                  (⟨(some 5), .move (.tmp 18), none⟩, (.int .i64))]) <|
              .seq (.reg [(⟨(some 20), .move (.tmp 0), none⟩, .ptr),
                  (⟨(some 21), .nilCheck (.tmp 20), none⟩, .ptr),
                  (⟨(some 22), .fieldAddr 1 (.tmp 21), none⟩, .ptr),
                  (⟨(some 23), .load false 1 (.tmp 22), none⟩, .any),
                  (⟨(some 24), .move (.tmp 5), none⟩, (.int .i64)),
                  (⟨(some 25), .lookup .i64 (.agg ⟨(List.replicate 32 (.int .u8 0))⟩) (.tmp 23) (.tmp 24) true, none⟩, .any),
                  (⟨(some 19), .move (.tmp 25), none⟩, .any),
                  (⟨(some 26), .extract (.tmp 19) 0, none⟩, .any),
                  (⟨(some 27), .extract (.tmp 19) 1, none⟩, .bool),
                  (⟨(some 6), .alloc (List.replicate 32 (.int .u8 0)), none⟩, .ptr),
                  (⟨none, .store 32 (.tmp 6) (.tmp 26), none⟩, .any),
                  (⟨(some 7), .move (.tmp 27), none⟩, .bool)]) <|
              .seq (.reg [(⟨(some 28), .move (.tmp 7), none⟩, .bool)]) <|
              .cond (.tmp 28)
                (.reg [(⟨(some 29), .move (.tmp 3), none⟩, .any),
                  (⟨(some 30), .move (.tmp 5), none⟩, (.int .i64)),
                  (⟨(some 31), .load true 32 (.tmp 6), none⟩, .any),
                  (⟨(some 32), .build [(.int .i64 0), (.int .u8 0), (.int .u8 0), (.int .u8 0), (.int .u8 0), (.int .u8 0), (.int .u8 0), (.int .u8 0), (.int .u8 0), (.int .u8 0), (.int .u8 0), (.int .u8 0), (.int .u8 0), (.int .u8 0), (.int .u8 0), (.int .u8 0), (.int .u8 0), (.int .u8 0), (.int .u8 0), (.int .u8 0), (.int .u8 0), (.int .u8 0), (.int .u8 0), (.int .u8 0), (.int .u8 0), (.int .u8 0), (.int .u8 0), (.int .u8 0), (.int .u8 0), (.int .u8 0), (.int .u8 0), (.int .u8 0), (.int .u8 0)] [(0, 1, (.tmp 30)), (1, 32, (.tmp 31))], none⟩, .any),
                  (⟨(some 33), .buildSlice 1 33 [(.int .i64 0), (.int .u8 0), (.int .u8 0), (.int .u8 0), (.int .u8 0), (.int .u8 0), (.int .u8 0), (.int .u8 0), (.int .u8 0), (.int .u8 0), (.int .u8 0), (.int .u8 0), (.int .u8 0), (.int .u8 0), (.int .u8 0), (.int .u8 0), (.int .u8 0), (.int .u8 0), (.int .u8 0), (.int .u8 0), (.int .u8 0), (.int .u8 0), (.int .u8 0), (.int .u8 0), (.int .u8 0), (.int .u8 0), (.int .u8 0), (.int .u8 0), (.int .u8 0), (.int .u8 0), (.int .u8 0), (.int .u8 0), (.int .u8 0)] [(0, 33, (.tmp 32))], none⟩, .any),
                  (⟨(some 34), .append 40 33 (.tmp 29) (.tmp 33), none⟩, .any),
                  (⟨(some 3), .move (.tmp 34), none⟩, .any)])
                (.skip)) <|
        .reg [(⟨(some 35), .bin .add (.tmp 15) (.const (.int .i64 1)), none⟩, (.int .i64)),
          (⟨(some 15), .move (.tmp 35), none⟩, (.int .i64))]) <|
  .seq (.reg [(⟨(some 36), .move (.tmp 3), none⟩, .any),
      (⟨(some 2), .move (.tmp 36), none⟩, .any)]) <|
  .ret
def f_buffer_Buffer_Images_L19 (n : Nat) (u0 : Option Addr) (x1 : Value) (n2 : Nat) (v3 : Value) (v4 : Int) (h5 : Heap) : Option (((Value × Int × Unit) × Heap) ⊕ ((Value × Unit) × Heap)) :=
  bif (decide (v4 < (n2 : Int))) then
    ((((ixB 1 x1 v4).bind fun q6 =>
      (ldT (.int .i64) h5 (some q6)).bind fun x7 =>
      (u0).bind fun q8 =>
      (ldT .any h5 (some (fa q8 1))).bind fun x9 =>
      (lkT .any h5 .i64 (.agg ⟨(List.replicate 32 (.int .u8 0))⟩) x9 x7).bind fun p10 =>
      bnd ((Heap.new h5 (.cells (List.replicate 32 (.int .u8 0)) false 0))) fun h11 =>
      (stB 32 p10.1 h11 (some (nwA h5))).bind fun h12 =>
      bif p10.2 then
        ((ldA 32 h12 (some (nwA h5))).bind fun cs13 =>
        (fillL [(.int .i64 0), (.int .u8 0), (.int .u8 0), (.int .u8 0), (.int .u8 0), (.int .u8 0), (.int .u8 0), (.int .u8 0), (.int .u8 0), (.int .u8 0), (.int .u8 0), (.int .u8 0), (.int .u8 0), (.int .u8 0), (.int .u8 0), (.int .u8 0), (.int .u8 0), (.int .u8 0), (.int .u8 0), (.int .u8 0), (.int .u8 0), (.int .u8 0), (.int .u8 0), (.int .u8 0), (.int .u8 0), (.int .u8 0), (.int .u8 0), (.int .u8 0), (.int .u8 0), (.int .u8 0), (.int .u8 0), (.int .u8 0), (.int .u8 0)] [(0, 1, (.int .i64 x7)), (1, 32, (.agg ⟨cs13⟩))]).bind fun cs14 =>
        (fillL [(.int .i64 0), (.int .u8 0), (.int .u8 0), (.int .u8 0), (.int .u8 0), (.int .u8 0), (.int .u8 0), (.int .u8 0), (.int .u8 0), (.int .u8 0), (.int .u8 0), (.int .u8 0), (.int .u8 0), (.int .u8 0), (.int .u8 0), (.int .u8 0), (.int .u8 0), (.int .u8 0), (.int .u8 0), (.int .u8 0), (.int .u8 0), (.int .u8 0), (.int .u8 0), (.int .u8 0), (.int .u8 0), (.int .u8 0), (.int .u8 0), (.int .u8 0), (.int .u8 0), (.int .u8 0), (.int .u8 0), (.int .u8 0), (.int .u8 0)] [(0, 33, (.agg ⟨cs14⟩))]).bind fun cs15 =>
        bnd ((Heap.new h12 (.cells cs15 false 33))) fun h16 =>
        (appendK h16 40 33 v3 (.slice (some ⟨Heap.next h12, 0, some 0⟩) 1 1)).bind fun p17 =>
        some ((p17.1, ()), p17.2))
      else
        (some ((v3, ()), h12))) : Option ((Value × Unit) × Heap)).bind fun a18 =>
    some (.inl ((a18.1.1, ((IntKind.i64.wrap (v4 + 1)), ())), a18.2)))
  else
    (Option.map Sum.inr (bif !isTuple v3 then
      (some ((v3, ()), h5))
    else
      (none)))
noncomputable def sf_buffer_Buffer_Images (n : Nat) : Sf := sfOf []
noncomputable def it_buffer_Buffer_Images (n : Nat) : It := itOf []
def f_buffer_Buffer_Images (n : Nat) (u0 : Option Addr) (h : Heap) : Option ((Value × Unit) × Heap) :=
  bif (Option.isNone u0) then
    (some (((.slice none 0 0), ()), h))
  else
    ((u0).bind fun q0 =>
    (ldT .any h (some (fa q0 0))).bind fun x1 =>
    (lenB x1).bind fun n2 =>
    loopT (fun a => f_buffer_Buffer_Images_L19 n u0 x1 n2 a.1.1 a.1.2.1 a.2) n (((.slice none 0 0), (0, ())), h))
def rs_buffer_Buffer_Images : Rs := [(.tmp 2, .any)]
def ps_buffer_Buffer_Images : List Ty := [.ptr]
theorem e_buffer_Buffer_Images (n : Nat) (u0 : Option Addr) (h : Heap) : f_buffer_Buffer_Images n u0 h = fB (sf_buffer_Buffer_Images n) (it_buffer_Buffer_Images n) n c2_buffer_Buffer_Images rs_buffer_Buffer_Images ps_buffer_Buffer_Images (u0, ()) h := by kernel_rfl
noncomputable def s_buffer_Buffer_Images (n : Nat) : Sf1 := mkSf ps_buffer_Buffer_Images rs_buffer_Buffer_Images fun a h => f_buffer_Buffer_Images n a.1 h

/- wicket/wicketlaw05.Own -/
def c2_wicketlaw05_Own : C2 :=
  .seq (.reg [(⟨(some 2), .move (.const (.slice none 0 0)), none⟩, .any)]) <|
  .seq (.reg [(⟨(some 3), .buildSlice 0 1 [] [], none⟩, .any),
      (⟨(some 4), .move (.tmp 0), none⟩, .any),
      (⟨(some 5), .append 8 1 (.tmp 3) (.tmp 4), none⟩, .any),
      (⟨(some 2), .move (.tmp 5), none⟩, .any)]) <|
  .ret
noncomputable def sf_wicketlaw05_Own (n : Nat) : Sf := sfOf []
noncomputable def it_wicketlaw05_Own (n : Nat) : It := itOf []
def f_wicketlaw05_Own (n : Nat) (u0 : Value) (h : Heap) : Option ((Value × Unit) × Heap) :=
  (fillL [] []).bind fun cs0 =>
  bnd ((Heap.new h (.cells cs0 false 1))) fun h1 =>
  (appendK h1 8 1 (.slice (some ⟨Heap.next h, 0, some 0⟩) 0 0) u0).bind fun p2 =>
  bif !isTuple p2.1 then
    (some ((p2.1, ()), p2.2))
  else
    (none)
def rs_wicketlaw05_Own : Rs := [(.tmp 2, .any)]
def ps_wicketlaw05_Own : List Ty := [.any]
theorem e_wicketlaw05_Own (n : Nat) (u0 : Value) (h : Heap) : f_wicketlaw05_Own n u0 h = fB (sf_wicketlaw05_Own n) (it_wicketlaw05_Own n) n c2_wicketlaw05_Own rs_wicketlaw05_Own ps_wicketlaw05_Own (u0, ()) h := by kernel_rfl
noncomputable def s_wicketlaw05_Own (n : Nat) : Sf1 := mkSf ps_wicketlaw05_Own rs_wicketlaw05_Own fun a h => f_wicketlaw05_Own n a.1 h

/- wicket/blocks.Is -/
def c2_blocks_Is : C2 :=
  .seq (.reg [(⟨(some 2), .move (.const (.bool false)), none⟩, .bool)]) <|
  .seq (.seq (.cutn [(26, .bool)] <|
        .reg [(⟨(some 4), .move (.tmp 0), none⟩, .any),
          (⟨(some 5), .lenS (.tmp 4), none⟩, (.int .i64)),
          (⟨(some 6), .bin .lss (.tmp 5) (.const (.int .i64 1)), none⟩, .bool),
          (⟨(some 7), .move (.tmp 6), none⟩, .bool),
          (⟨(some 8), .move (.tmp 0), some (7, false)⟩, .any),
          (⟨(some 9), .lenS (.tmp 8), some (7, false)⟩, (.int .i64)),
          (⟨(some 10), .bin .gtr (.tmp 9) (.const (.int .i64 16)), some (7, false)⟩, .bool),
          (⟨(some 11), .pick (.tmp 7) (.const (.bool true)) (.tmp 10), none⟩, .bool),
          (⟨(some 12), .move (.tmp 11), none⟩, .bool),
          (⟨(some 13), .move (.tmp 0), some (12, false)⟩, .any),
          (⟨(some 14), .idxSlice 1 (.tmp 13) (.const (.int .i64 0)), some (12, false)⟩, .ptr),
          (⟨(some 15), .load false 1 (.tmp 14), some (12, false)⟩, (.int .i64)),
          (⟨(some 16), .bin .lss (.tmp 15) (.const (.int .i64 0)), some (12, false)⟩, .bool),
          (⟨(some 17), .pick (.tmp 12) (.const (.bool true)) (.tmp 16), none⟩, .bool),
          (⟨(some 18), .move (.tmp 17), none⟩, .bool),
          (⟨(some 19), .move (.tmp 0), some (18, false)⟩, .any),
          (⟨(some 20), .move (.tmp 0), some (18, false)⟩, .any),
          (⟨(some 21), .lenS (.tmp 20), some (18, false)⟩, (.int .i64)),
          (⟨(some 22), .bin .sub (.tmp 21) (.const (.int .i64 1)), some (18, false)⟩, (.int .i64)),
          (⟨(some 23), .idxSlice 1 (.tmp 19) (.tmp 22), some (18, false)⟩, .ptr),
          (⟨(some 24), .load false 1 (.tmp 23), some (18, false)⟩, (.int .i64)),
          (⟨(some 25), .bin .geq (.tmp 24) (.const (.int .i64 64)), some (18, false)⟩, .bool),
          (⟨(some 26), .pick (.tmp 18) (.const (.bool true)) (.tmp 25), none⟩, .bool)]) <|
    .cond (.tmp 26)
      (.seq (.reg [(⟨(some 2), .move (.const (.bool false)), none⟩, .bool)]) <|
      .ret)
      (.skip)) <|
  .seq (.seq (.reg [(⟨(some 3), .move (.const (.int .i64 1)), none⟩, (.int .i64))]) <|
    .block 0 <|
      .loop [(3, (.int .i64))] <|
        .seq (.seq (.reg [(⟨(some 27), .move (.tmp 3), none⟩, (.int .i64)),
              (⟨(some 28), .move (.tmp 0), none⟩, .any),
              (⟨(some 29), .lenS (.tmp 28), none⟩, (.int .i64)),
              (⟨(some 30), .bin .lss (.tmp 27) (.tmp 29), none⟩, .bool)]) <|
          .cond (.tmp 30)
            (.skip)
            (.exit 0)) <|
        .seq (.block 1 <|
            .seq (.regd [(⟨0, [], false, ⟨(some 33), .move (.tmp 0), none⟩⟩, .any),
                (⟨1, [], false, ⟨(some 34), .move (.tmp 3), none⟩⟩, (.int .i64)),
                (⟨2, [0, 1], false, ⟨(some 35), .idxSlice 1 (.tmp 33) (.tmp 34), none⟩⟩, .ptr),
                (⟨3, [2, 0, 1], false, ⟨(some 36), .load false 1 (.tmp 35), none⟩⟩, (.int .i64)),
                (⟨4, [], false, ⟨(some 37), .move (.tmp 0), none⟩⟩, .any),
                (⟨5, [], false, ⟨(some 38), .move (.tmp 3), none⟩⟩, (.int .i64)),
                (⟨6, [5], false, ⟨(some 39), .bin .sub (.tmp 38) (.const (.int .i64 1)), none⟩⟩, (.int .i64)),
                (⟨7, [4, 6, 5], false, ⟨(some 40), .idxSlice 1 (.tmp 37) (.tmp 39), none⟩⟩, .ptr),
                (⟨8, [7, 4, 6, 5], false, ⟨(some 41), .load false 1 (.tmp 40), none⟩⟩, (.int .i64)),
                (⟨9, [3, 8, 2, 0, 1, 7, 4, 6, 5], false, ⟨(some 42), .bin .leq (.tmp 36) (.tmp 41), none⟩⟩, .bool)]) <|
            .cond (.tmp 42)
              (.seq (.reg [(⟨(some 2), .move (.const (.bool false)), none⟩, .bool)]) <|
              .ret)
              (.skip)) <|
        .reg [(⟨(some 31), .move (.tmp 3), none⟩, (.int .i64)),
          (⟨(some 32), .bin .add (.tmp 31) (.const (.int .i64 1)), none⟩, (.int .i64)),
          (⟨(some 3), .move (.tmp 32), none⟩, (.int .i64))]) <|
  .seq (.reg [(⟨(some 2), .move (.const (.bool true)), none⟩, .bool)]) <|
  .ret
def f_blocks_Is_L15 (n : Nat) (u0 : Value) (v8 : Int) (h9 : Heap) : Option (((Int × Unit) × Heap) ⊕ ((Bool × Unit) × Heap)) :=
  (lenB u0).bind fun n10 =>
  bif (decide (v8 < (n10 : Int))) then
    ((ixB 1 u0 v8).bind fun q11 =>
    (ldT (.int .i64) h9 (some q11)).bind fun x12 =>
    (ixB 1 u0 (IntKind.i64.wrap (v8 - 1))).bind fun q13 =>
    (ldT (.int .i64) h9 (some q13)).bind fun x14 =>
    bif (decide (x12 ≤ x14)) then
      (some (.inr ((false, ()), h9)))
    else
      (some (.inl (((IntKind.i64.wrap (v8 + 1)), ()), h9))))
  else
    (some (.inr ((true, ()), h9)))
noncomputable def sf_blocks_Is (n : Nat) : Sf := sfOf []
noncomputable def it_blocks_Is (n : Nat) : It := itOf []
def f_blocks_Is (n : Nat) (u0 : Value) (h : Heap) : Option ((Bool × Unit) × Heap) :=
  (((lenB u0).bind fun n0 =>
    bif (decide ((n0 : Int) < 1)) then
      (some ((true, ()), h))
    else
      ((lenB u0).bind fun n1 =>
      bif (decide (16 < (n1 : Int))) then
        (some ((true, ()), h))
      else
        ((ixB 1 u0 0).bind fun q2 =>
        (ldT (.int .i64) h (some q2)).bind fun x3 =>
        bif (decide (x3 < 0)) then
          (some ((true, ()), h))
        else
          ((lenB u0).bind fun n4 =>
          (ixB 1 u0 (IntKind.i64.wrap ((n4 : Int) - 1))).bind fun q5 =>
          (ldT (.int .i64) h (some q5)).bind fun x6 =>
          some (((decide (64 ≤ x6)), ()), h))))) : Option ((Bool × Unit) × Heap)).bind fun a7 =>
  bif a7.1.1 then
    (some ((false, ()), a7.2))
  else
    (loopT (fun a => f_blocks_Is_L15 n u0 a.1.1 a.2) n ((1, ()), a7.2))
def rs_blocks_Is : Rs := [(.tmp 2, .bool)]
def ps_blocks_Is : List Ty := [.any]
theorem e_blocks_Is (n : Nat) (u0 : Value) (h : Heap) : f_blocks_Is n u0 h = fB (sf_blocks_Is n) (it_blocks_Is n) n c2_blocks_Is rs_blocks_Is ps_blocks_Is (u0, ()) h := by kernel_rfl
noncomputable def s_blocks_Is (n : Nat) : Sf1 := mkSf ps_blocks_Is rs_blocks_Is fun a h => f_blocks_Is n a.1 h

/- slices.Clone[[]int,int] -/
def c2_slices_Clone_int_int : C2 :=
  .seq (.reg [(⟨(some 2), .move (.const (.slice none 0 0)), none⟩, .any)]) <|
  .seq (.seq (.reg [(⟨(some 3), .move (.tmp 0), none⟩, .any),
        (⟨(some 4), .eqv false .slice (.tmp 3) (.const (.slice none 0 0)), none⟩, .bool)]) <|
    .cond (.tmp 4)
      (.seq (.reg [(⟨(some 2), .move (.const (.slice none 0 0)), none⟩, .any)]) <|
      .ret)
      (.skip)) <|
  .seq (.reg [(⟨(some 5), .buildSlice 0 1 [] [], none⟩, .any),
      (⟨(some 6), .move (.tmp 0), none⟩, .any),
      (⟨(some 7), .append 8 1 (.tmp 5) (.tmp 6), none⟩, .any),
      (⟨(some 2), .move (.tmp 7), none⟩, .any)]) <|
  .ret
noncomputable def sf_slices_Clone_int_int (n : Nat) : Sf := sfOf []
noncomputable def it_slices_Clone_int_int (n : Nat) : It := itOf []
def f_slices_Clone_int_int (n : Nat) (u0 : Value) (h : Heap) : Option ((Value × Unit) × Heap) :=
  (eqVals h .slice u0 (.slice none 0 0)).bind fun b0 =>
  bif b0 then
    (some (((.slice none 0 0), ()), h))
  else
    ((fillL [] []).bind fun cs1 =>
    bnd ((Heap.new h (.cells cs1 false 1))) fun h2 =>
    (appendK h2 8 1 (.slice (some ⟨Heap.next h, 0, some 0⟩) 0 0) u0).bind fun p3 =>
    bif !isTuple p3.1 then
      (some ((p3.1, ()), p3.2))
    else
      (none))
def rs_slices_Clone_int_int : Rs := [(.tmp 2, .any)]
def ps_slices_Clone_int_int : List Ty := [.any]
theorem e_slices_Clone_int_int (n : Nat) (u0 : Value) (h : Heap) : f_slices_Clone_int_int n u0 h = fB (sf_slices_Clone_int_int n) (it_slices_Clone_int_int n) n c2_slices_Clone_int_int rs_slices_Clone_int_int ps_slices_Clone_int_int (u0, ()) h := by kernel_rfl
noncomputable def s_slices_Clone_int_int (n : Nat) : Sf1 := mkSf ps_slices_Clone_int_int rs_slices_Clone_int_int fun a h => f_slices_Clone_int_int n a.1 h

/- wicket/wicketref05.Is -/
def c2_wicketref05_Is : C2 :=
  .seq (.reg [(⟨(some 2), .move (.const (.bool false)), none⟩, .bool)]) <|
  .seq (.seq (.cutn [(11, .bool)] <|
        .reg [(⟨(some 4), .move (.tmp 0), none⟩, .any),
          (⟨(some 5), .lenS (.tmp 4), none⟩, (.int .i64)),
          (⟨(some 6), .bin .lss (.tmp 5) (.const (.int .i64 1)), none⟩, .bool),
          (⟨(some 7), .move (.tmp 6), none⟩, .bool),
          (⟨(some 8), .move (.tmp 0), some (7, false)⟩, .any),
          (⟨(some 9), .lenS (.tmp 8), some (7, false)⟩, (.int .i64)),
          (⟨(some 10), .bin .gtr (.tmp 9) (.const (.int .i64 16)), some (7, false)⟩, .bool),
          (⟨(some 11), .pick (.tmp 7) (.const (.bool true)) (.tmp 10), none⟩, .bool)]) <|
    .cond (.tmp 11)
      (.seq (.reg [(⟨(some 2), .move (.const (.bool false)), none⟩, .bool)]) <|
      .ret)
      (.skip)) <|
  .seq (.seq (.reg [(⟨(some 3), .move (.const (.int .i64 0)), none⟩, (.int .i64))]) <|
    .block 0 <|
      .loop [(3, (.int .i64))] <|
        .seq (.seq (.reg [(⟨(some 12), .move (.tmp 3), none⟩, (.int .i64)),
              (⟨(some 13), .move (.tmp 0), none⟩, .any),
              (⟨(some 14), .lenS (.tmp 13), none⟩, (.int .i64)),
              (⟨(some 15), .bin .lss (.tmp 12) (.tmp 14), none⟩, .bool)]) <|
          .cond (.tmp 15)
            (.skip)
            (.exit 0)) <|
        .seq (.block 1 <|
            .seq (.cutn [(45, .bool)] <|
                .regd [(⟨0, [], false, ⟨(some 18), .move (.tmp 0), none⟩⟩, .any),
                  (⟨1, [], false, ⟨(some 19), .move (.tmp 3), none⟩⟩, (.int .i64)),
                  (⟨2, [0, 1], false, ⟨(some 20), .idxSlice 1 (.tmp 18) (.tmp 19), none⟩⟩, .ptr),
                  (⟨3, [2, 0, 1], false, ⟨(some 21), .load false 1 (.tmp 20), none⟩⟩, (.int .i64)),
                  (⟨4, [3, 2, 0, 1], false, ⟨(some 22), .bin .lss (.tmp 21) (.const (.int .i64 0)), none⟩⟩, .bool),
                  (⟨5, [4, 3, 2, 0, 1], false, ⟨(some 23), .move (.tmp 22), none⟩⟩, .bool),
                  (⟨6, [5, 4, 3, 2, 0, 1], false, ⟨(some 24), .move (.tmp 0), some (23, false)⟩⟩, .any),
                  (⟨7, [5, 4, 3, 2, 0, 1], false, ⟨(some 25), .move (.tmp 3), some (23, false)⟩⟩, (.int .i64)),
                  (⟨8, [6, 7, 5, 4, 3, 2, 0, 1], false, ⟨(some 26), .idxSlice 1 (.tmp 24) (.tmp 25), some (23, false)⟩⟩, .ptr),
                  (⟨9, [8, 5, 6, 7, 4, 3, 2, 0, 1], false, ⟨(some 27), .load false 1 (.tmp 26), some (23, false)⟩⟩, (.int .i64)),
                  (⟨10, [9, 5, 8, 6, 7, 4, 3, 2, 0, 1], false, ⟨(some 28), .bin .geq (.tmp 27) (.const (.int .i64 64)), some (23, false)⟩⟩, .bool),
                  (⟨11, [5, 10, 4, 3, 2, 0, 1, 9, 8, 6, 7], false, ⟨(some 29), .pick (.tmp 23) (.const (.bool true)) (.tmp 28), none⟩⟩, .bool),
                  (⟨12, [11, 5, 10, 4, 3, 2, 0, 1, 9, 8, 6, 7], false, ⟨(some 30), .move (.tmp 29), none⟩⟩, .bool),
                  (⟨13, [12, 11, 5, 10, 4, 3, 2, 0, 1, 9, 8, 6, 7], false, ⟨(some 31), .move (.tmp 3), some (30, false)⟩⟩, (.int .i64)),
                  (⟨14, [13, 12, 11, 5, 10, 4, 3, 2, 0, 1, 9, 8, 6, 7], false, ⟨(some 32), .bin .gtr (.tmp 31) (.const (.int .i64 0)), some (30, false)⟩⟩, .bool),
                  (⟨15, [14, 12, 13, 11, 5, 10, 4, 3, 2, 0, 1, 9, 8, 6, 7], false, ⟨(some 33), .move (.tmp 32), some (30, false)⟩⟩, .bool),
                  (⟨16, [15, 14, 12, 13, 11, 5, 10, 4, 3, 2, 0, 1, 9, 8, 6, 7], false, ⟨(some 34), .move (.tmp 0), some (33, true)⟩⟩, .any),
                  (⟨17, [15, 14, 12, 13, 11, 5, 10, 4, 3, 2, 0, 1, 9, 8, 6, 7], false, ⟨(some 35), .move (.tmp 3), some (33, true)⟩⟩, (.int .i64)),
                  (⟨18, [17, 15, 14, 12, 13, 11, 5, 10, 4, 3, 2, 0, 1, 9, 8, 6, 7], false, ⟨(some 36), .bin .sub (.tmp 35) (.const (.int .i64 1)), some (33, true)⟩⟩, (.int .i64)),
                  (⟨19, [16, 18, 15, 14, 12, 13, 11, 5, 10, 4, 3, 2, 0, 1, 9, 8, 6, 7, 17], false, ⟨(some 37), .idxSlice 1 (.tmp 34) (.tmp 36), some (33, true)⟩⟩, .ptr),
                  (⟨20, [19, 15, 16, 18, 14, 12, 13, 11, 5, 10, 4, 3, 2, 0, 1, 9, 8, 6, 7, 17], false, ⟨(some 38), .load false 1 (.tmp 37), some (33, true)⟩⟩, (.int .i64)),
                  (⟨21, [15, 14, 12, 13, 11, 5, 10, 4, 3, 2, 0, 1, 9, 8, 6, 7], false, ⟨(some 39), .move (.tmp 0), some (33, true)⟩⟩, .any),
                  (⟨22, [15, 14, 12, 13, 11, 5, 10, 4, 3, 2, 0, 1, 9, 8, 6, 7], false, ⟨(some 40), .move (.tmp 3), some (33, true)⟩⟩, (.int .i64)),
                  (⟨23, [21, 22, 15, 14, 12, 13, 11, 5, 10, 4, 3, 2, 0, 1, 9, 8, 6, 7], false, ⟨(some 41), .idxSlice 1 (.tmp 39) (.tmp 40), some (33, true)⟩⟩, .ptr),
                  (⟨24, [23, 15, 21, 22, 14, 12, 13, 11, 5, 10, 4, 3, 2, 0, 1, 9, 8, 6, 7], false, ⟨(some 42), .load false 1 (.tmp 41), some (33, true)⟩⟩, (.int .i64)),
                  (⟨25, [20, 24, 15, 19, 16, 18, 14, 12, 13, 11, 5, 10, 4, 3, 2, 0, 1, 9, 8, 6, 7, 17, 23, 21, 22], false, ⟨(some 43), .bin .geq (.tmp 38) (.tmp 42), some (33, true)⟩⟩, .bool),
                  (⟨26, [15, 25, 12, 14, 13, 11, 5, 10, 4, 3, 2, 0, 1, 9, 8, 6, 7, 20, 24, 19, 16, 18, 17, 23, 21, 22], false, ⟨(some 44), .pick (.tmp 33) (.tmp 43) (.const (.bool false)), some (30, false)⟩⟩, .bool),
                  (⟨27, [12, 26, 11, 5, 10, 4, 3, 2, 0, 1, 9, 8, 6, 7, 15, 25, 14, 13, 20, 24, 19, 16, 18, 17, 23, 21, 22], false, ⟨(some 45), .pick (.tmp 30) (.const (.bool true)) (.tmp 44), none⟩⟩, .bool)]) <|
            .cond (.tmp 45)
              (.seq (.reg [(⟨(some 2), .move (.const (.bool false)), none⟩, .bool)]) <|
              .ret)
              (.skip)) <|
        .reg [(⟨(some 16), .move (.tmp 3), none⟩, (.int .i64)),
          (⟨(some 17), .bin .add (.tmp 16) (.const (.int .i64 1)), none⟩, (.int .i64)),
          (⟨(some 3), .move (.tmp 17), none⟩, (.int .i64))]) <|
  .seq (.reg [(⟨(some 2), .move (.const (.bool true)), none⟩, .bool)]) <|
  .ret
def f_wicketref05_Is_L15 (n : Nat) (u0 : Value) (v3 : Int) (h4 : Heap) : Option (((Int × Unit) × Heap) ⊕ ((Bool × Unit) × Heap)) :=
  (lenB u0).bind fun n5 =>
  bif (decide (v3 < (n5 : Int))) then
    ((((ixB 1 u0 v3).bind fun q6 =>
      (ldT (.int .i64) h4 (some q6)).bind fun x7 =>
      bif (decide (x7 < 0)) then
        (some ((true, ()), h4))
      else
        ((ixB 1 u0 v3).bind fun q8 =>
        (ldT (.int .i64) h4 (some q8)).bind fun x9 =>
        bif (decide (64 ≤ x9)) then
          (some ((true, ()), h4))
        else
          (bif (decide (0 < v3)) then
            ((ixB 1 u0 (IntKind.i64.wrap (v3 - 1))).bind fun q10 =>
            (ldT (.int .i64) h4 (some q10)).bind fun x11 =>
            (ixB 1 u0 v3).bind fun q12 =>
            (ldT (.int .i64) h4 (some q12)).bind fun x13 =>
            some (((decide (x13 ≤ x11)), ()), h4))
          else
            (some ((false, ()), h4))))) : Option ((Bool × Unit) × Heap)).bind fun a14 =>
    bif a14.1.1 then
      (some (.inr ((false, ()), a14.2)))
    else
      (some (.inl (((IntKind.i64.wrap (v3 + 1)), ()), a14.2))))
  else
    (some (.inr ((true, ()), h4)))
noncomputable def sf_wicketref05_Is (n : Nat) : Sf := sfOf []
noncomputable def it_wicketref05_Is (n : Nat) : It := itOf []
def f_wicketref05_Is (n : Nat) (u0 : Value) (h : Heap) : Option ((Bool × Unit) × Heap) :=
  (((lenB u0).bind fun n0 =>
    bif (decide ((n0 : Int) < 1)) then
      (some ((true, ()), h))
    else
      ((lenB u0).bind fun n1 =>
      some (((decide (16 < (n1 : Int))), ()), h))) : Option ((Bool × Unit) × Heap)).bind fun a2 =>
  bif a2.1.1 then
    (some ((false, ()), a2.2))
  else
    (loopT (fun a => f_wicketref05_Is_L15 n u0 a.1.1 a.2) n ((0, ()), a2.2))
def rs_wicketref05_Is : Rs := [(.tmp 2, .bool)]
def ps_wicketref05_Is : List Ty := [.any]
theorem e_wicketref05_Is (n : Nat) (u0 : Value) (h : Heap) : f_wicketref05_Is n u0 h = fB (sf_wicketref05_Is n) (it_wicketref05_Is n) n c2_wicketref05_Is rs_wicketref05_Is ps_wicketref05_Is (u0, ()) h := by kernel_rfl
noncomputable def s_wicketref05_Is (n : Nat) : Sf1 := mkSf ps_wicketref05_Is rs_wicketref05_Is fun a h => f_wicketref05_Is n a.1 h

/- wicket/wicketref05.Same -/
def c2_wicketref05_Same : C2 :=
  .seq (.reg [(⟨(some 4), .move (.const (.bool false)), none⟩, .bool)]) <|
  .seq (.seq (.reg [(⟨(some 6), .move (.tmp 0), none⟩, .any),
        (⟨(some 7), .lenS (.tmp 6), none⟩, (.int .i64)),
        (⟨(some 8), .move (.tmp 1), none⟩, .any),
        (⟨(some 9), .lenS (.tmp 8), none⟩, (.int .i64)),
        (⟨(some 10), .bin .neq (.tmp 7) (.tmp 9), none⟩, .bool)]) <|
    .cond (.tmp 10)
      (.seq (.reg [(⟨(some 4), .move (.const (.bool false)), none⟩, .bool)]) <|
      .ret)
      (.skip)) <|
  .seq (.seq (.reg [(⟨(some 5), .move (.const (.int .i64 0)), none⟩, (.int .i64))]) <|
    .block 0 <|
      .loop [(5, (.int .i64))] <|
        .seq (.seq (.reg [(⟨(some 11), .move (.tmp 5), none⟩, (.int .i64)),
              (⟨(some 12), .move (.tmp 0), none⟩, .any),
              (⟨(some 13), .lenS (.tmp 12), none⟩, (.int .i64)),
              (⟨(some 14), .bin .lss (.tmp 11) (.tmp 13), none⟩, .bool)]) <|
          .cond (.tmp 14)
            (.skip)
            (.exit 0)) <|
        .seq (.block 1 <|
            .seq (.regd [(⟨0, [], false, ⟨(some 17), .move (.tmp 0), none⟩⟩, .any),
                (⟨1, [], false, ⟨(some 18), .move (.tmp 5), none⟩⟩, (.int .i64)),
                (⟨2, [0, 1], false, ⟨(some 19), .idxSlice 1 (.tmp 17) (.tmp 18), none⟩⟩, .ptr),
                (⟨3, [2, 0, 1], false, ⟨(some 20), .load false 1 (.tmp 19), none⟩⟩, (.int .i64)),
                (⟨4, [], false, ⟨(some 21), .move (.tmp 1), none⟩⟩, .any),
                (⟨5, [], false, ⟨(some 22), .move (.tmp 5), none⟩⟩, (.int .i64)),
                (⟨6, [4, 5], false, ⟨(some 23), .idxSlice 1 (.tmp 21) (.tmp 22), none⟩⟩, .ptr),
                (⟨7, [6, 4, 5], false, ⟨(some 24), .load false 1 (.tmp 23), none⟩⟩, (.int .i64)),
                (⟨8, [3, 7, 2, 0, 1, 6, 4, 5], false, ⟨(some 25), .bin .neq (.tmp 20) (.tmp 24), none⟩⟩, .bool)]) <|
            .cond (.tmp 25)
              (.seq (.reg [(⟨(some 4), .move (.const (.bool false)), none⟩, .bool)]) <|
              .ret)
              (.skip)) <|
        .reg [(⟨(some 15), .move (.tmp 5), none⟩, (.int .i64)),
          (⟨(some 16), .bin .add (.tmp 15) (.const (.int .i64 1)), none⟩, (.int .i64)),
          (⟨(some 5), .move (.tmp 16), none⟩, (.int .i64))]) <|
  .seq (.reg [(⟨(some 4), .move (.const (.bool true)), none⟩, .bool)]) <|
  .ret
def f_wicketref05_Same_L9 (n : Nat) (u1 : Value) (u0 : Value) (v2 : Int) (h3 : Heap) : Option (((Int × Unit) × Heap) ⊕ ((Bool × Unit) × Heap)) :=
  (lenB u0).bind fun n4 =>
  bif (decide (v2 < (n4 : Int))) then
    ((ixB 1 u0 v2).bind fun q5 =>
    (ldT (.int .i64) h3 (some q5)).bind fun x6 =>
    (ixB 1 u1 v2).bind fun q7 =>
    (ldT (.int .i64) h3 (some q7)).bind fun x8 =>
    bif (!decide (x6 = x8)) then
      (some (.inr ((false, ()), h3)))
    else
      (some (.inl (((IntKind.i64.wrap (v2 + 1)), ()), h3))))
  else
    (some (.inr ((true, ()), h3)))
noncomputable def sf_wicketref05_Same (n : Nat) : Sf := sfOf []
noncomputable def it_wicketref05_Same (n : Nat) : It := itOf []
def f_wicketref05_Same (n : Nat) (u0 : Value) (u1 : Value) (h : Heap) : Option ((Bool × Unit) × Heap) :=
  (lenB u0).bind fun n0 =>
  (lenB u1).bind fun n1 =>
  bif (!decide ((n0 : Int) = (n1 : Int))) then
    (some ((false, ()), h))
  else
    (loopT (fun a => f_wicketref05_Same_L9 n u1 u0 a.1.1 a.2) n ((0, ()), h))
def rs_wicketref05_Same : Rs := [(.tmp 4, .bool)]
def ps_wicketref05_Same : List Ty := [.any, .any]
theorem e_wicketref05_Same (n : Nat) (u0 : Value) (u1 : Value) (h : Heap) : f_wicketref05_Same n u0 u1 h = fB (sf_wicketref05_Same n) (it_wicketref05_Same n) n c2_wicketref05_Same rs_wicketref05_Same ps_wicketref05_Same (u0, (u1, ())) h := by kernel_rfl
noncomputable def s_wicketref05_Same (n : Nat) : Sf1 := mkSf ps_wicketref05_Same rs_wicketref05_Same fun a h => f_wicketref05_Same n a.1 a.2.1 h

/- (*wicket/buffer.Buffer).Copy -/
def c2_buffer_Buffer_Copy : C2 :=
  .seq (.reg [(⟨(some 2), .move (.const (.pointer none)), none⟩, .ptr)]) <|
  .seq (.seq (.reg [(⟨(some 3), .move (.tmp 0), none⟩, .ptr),
        (⟨(some 4), .eqv false .ptr (.tmp 3) (.const (.pointer none)), none⟩, .bool)]) <|
    .cond (.tmp 4)
      (.seq (.reg [(⟨(some 2), .move (.const (.pointer none)), none⟩, .ptr)]) <|
      .ret)
      (.skip)) <|
  .seq (.regd [(⟨0, [], false, ⟨(some 5), .move (.tmp 0), none⟩⟩, .ptr),
      (⟨1, [0], false, ⟨(some 6), .nilCheck (.tmp 5), none⟩⟩, .ptr),
      (⟨2, [1, 0], false, ⟨(some 7), .fieldAddr 0 (.tmp 6), none⟩⟩, .ptr),
      (⟨3, [2, 1, 0], false, ⟨(some 8), .load false 1 (.tmp 7), none⟩⟩, .any),
      (⟨5, [], false, ⟨(some 10), .move (.tmp 0), none⟩⟩, .ptr),
      (⟨6, [5], false, ⟨(some 11), .nilCheck (.tmp 10), none⟩⟩, .ptr),
      (⟨7, [6, 5], false, ⟨(some 12), .fieldAddr 1 (.tmp 11), none⟩⟩, .ptr),
      (⟨8, [7, 6, 5], false, ⟨(some 13), .load false 1 (.tmp 12), none⟩⟩, .any),
      (⟨4, [3, 2, 1, 0], true, ⟨(some 9), .call k_slices_Clone_int_int [(.tmp 8)], none⟩⟩, .any),
      (⟨9, [8, 4, 7, 6, 5, 3, 2, 1, 0], true, ⟨(some 14), .call k_maps_Clone_map_int_api_Value_int_api_Value [(.tmp 13)], none⟩⟩, .any),
      (⟨10, [4, 9, 3, 2, 1, 0, 8, 7, 6, 5], false, ⟨(some 15), .build [(.slice none 0 0), (.map none)] [(0, 1, (.tmp 9)), (1, 1, (.tmp 14))], none⟩⟩, .any),
      (⟨11, [10, 4, 9, 3, 2, 1, 0, 8, 7, 6, 5], false, ⟨(some 16), .box (.tmp 15), none⟩⟩, .ptr),
      (⟨12, [11, 9, 0, 1, 2, 3, 4, 5, 6, 7, 8, 10], false, ⟨(some 2), .move (.tmp 16), none⟩⟩, .ptr)]) <|
  .ret
noncomputable def sf_buffer_Buffer_Copy (n : Nat) : Sf := sfOf [(k_slices_Clone_int_int, s_slices_Clone_int_int n), (k_maps_Clone_map_int_api_Value_int_api_Value, s_maps_Clone_map_int_api_Value_int_api_Value n)]
noncomputable def it_buffer_Buffer_Copy (n : Nat) : It := itOf []
def f_buffer_Buffer_Copy (n : Nat) (u0 : Option Addr) (h : Heap) : Option ((Option Addr × Unit) × Heap) :=
  bif (Option.isNone u0) then
    (some ((none, ()), h))
  else
    ((u0).bind fun q0 =>
    (ldT .any h (some (fa q0 0))).bind fun x1 =>
    (u0).bind fun q2 =>
    (ldT .any h (some (fa q2 1))).bind fun x3 =>
    (f_slices_Clone_int_int n x1 (hid h [] ((Addr.block (fa q2 1)) :: []))).bind fun p4 =>
    bnd (Heap.putBack p4.2 h ([] ++ ((Addr.block (fa q2 1)) :: []))) fun h5 =>
    (f_maps_Clone_map_int_api_Value_int_api_Value n x3 h5).bind fun p6 =>
    (fillL [(.slice none 0 0), (.map none)] [(0, 1, p4.1.1), (1, 1, p6.1.1)]).bind fun cs7 =>
    bif (cs7 : List Value).all isCell then
      (bnd ((Heap.new p6.2 (.cells cs7 false 0))) fun h8 =>
      some (((some (nwA p6.2)), ()), h8))
    else
      (none))
def rs_buffer_Buffer_Copy : Rs := [(.tmp 2, .ptr)]
def ps_buffer_Buffer_Copy : List Ty := [.ptr]
theorem e_buffer_Buffer_Copy (n : Nat) (u0 : Option Addr) (h : Heap) : f_buffer_Buffer_Copy n u0 h = fB (sf_buffer_Buffer_Copy n) (it_buffer_Buffer_Copy n) n c2_buffer_Buffer_Copy rs_buffer_Buffer_Copy ps_buffer_Buffer_Copy (u0, ()) h := by kernel_rfl
noncomputable def s_buffer_Buffer_Copy (n : Nat) : Sf1 := mkSf ps_buffer_Buffer_Copy rs_buffer_Buffer_Copy fun a h => f_buffer_Buffer_Copy n a.1 h

/- (*wicket/wicketref16.Buffer).Copy -/
def c2_wicketref16_Buffer_Copy : C2 :=
  .seq (.reg [(⟨(some 2), .move (.const (.pointer none)), none⟩, .ptr)]) <|
  .seq (.regd [(⟨0, [], false, ⟨(some 3), .buildSlice 0 1 [] [], none⟩⟩, .any),
      (⟨1, [], false, ⟨(some 4), .move (.tmp 0), none⟩⟩, .ptr),
      (⟨2, [1], false, ⟨(some 5), .nilCheck (.tmp 4), none⟩⟩, .ptr),
      (⟨3, [2, 1], false, ⟨(some 6), .fieldAddr 0 (.tmp 5), none⟩⟩, .ptr),
      (⟨4, [3, 2, 1], false, ⟨(some 7), .load false 1 (.tmp 6), none⟩⟩, .any),
      (⟨6, [], false, ⟨(some 9), .buildSlice 0 33 [] [], none⟩⟩, .any),
      (⟨7, [], false, ⟨(some 10), .move (.tmp 0), none⟩⟩, .ptr),
      (⟨8, [7], false, ⟨(some 11), .nilCheck (.tmp 10), none⟩⟩, .ptr),
      (⟨9, [8, 7], false, ⟨(some 12), .fieldAddr 1 (.tmp 11), none⟩⟩, .ptr),
      (⟨10, [9, 8, 7], false, ⟨(some 13), .load false 1 (.tmp 12), none⟩⟩, .any),
      (⟨5, [0, 4, 3, 2, 1], true, ⟨(some 8), .append 8 1 (.tmp 3) (.tmp 7), none⟩⟩, .any),
      (⟨11, [6, 10, 5, 9, 8, 7, 0, 4, 3, 2, 1], true, ⟨(some 14), .append 40 33 (.tmp 9) (.tmp 13), none⟩⟩, .any),
      (⟨12, [5, 11, 0, 4, 3, 2, 1, 6, 10, 9, 8, 7], false, ⟨(some 15), .build [(.slice none 0 0), (.slice none 0 0)] [(0, 1, (.tmp 8)), (1, 1, (.tmp 14))], none⟩⟩, .any),
      (⟨13, [12, 5, 11, 0, 4, 3, 2, 1, 6, 10, 9, 8, 7], false, ⟨(some 16), .box (.tmp 15), none⟩⟩, .ptr),
      (⟨14, [13, 11, 0, 1, 2, 3, 4, 5, 6, 7, 8, 9, 10, 12], false, ⟨(some 2), .move (.tmp 16), none⟩⟩, .ptr)]) <|
  .ret
noncomputable def sf_wicketref16_Buffer_Copy (n : Nat) : Sf := sfOf []
noncomputable def it_wicketref16_Buffer_Copy (n : Nat) : It := itOf []
def f_wicketref16_Buffer_Copy (n : Nat) (u0 : Option Addr) (h : Heap) : Option ((Option Addr × Unit) × Heap) :=
  (fillL [] []).bind fun cs0 =>
  bnd ((Heap.new h (.cells cs0 false 1))) fun h1 =>
  (u0).bind fun q2 =>
  (ldT .any (Heap.dropAll h1 ((Heap.next h) :: [])) (some (fa q2 0))).bind fun x3 =>
  (fillL [] []).bind fun cs4 =>
  bnd ((Heap.new h1 (.cells cs4 false 33))) fun h5 =>
  (u0).bind fun q6 =>
  (ldT .any (Heap.dropAll h5 ((Heap.next h1) :: ((Heap.next h) :: []))) (some (fa q6 1))).bind fun x7 =>
  (appendK (hid h5 ((Heap.next h1) :: []) ((Addr.block (fa q6 1)) :: [])) 8 1 (.slice (some ⟨Heap.next h, 0, some 0⟩) 0 0) x3).bind fun p8 =>
  bnd (Heap.putBack p8.2 h5 (((Heap.next h1) :: []) ++ ((Addr.block (fa q6 1)) :: []))) fun h9 =>
  (appendK h9 40 33 (.slice (some ⟨Heap.next h1, 0, some 0⟩) 0 0) x7).bind fun p10 =>
  (fillL [(.slice none 0 0), (.slice none 0 0)] [(0, 1, p8.1), (1, 1, p10.1)]).bind fun cs11 =>
  bif (cs11 : List Value).all isCell then
    (bnd ((Heap.new p10.2 (.cells cs11 false 0))) fun h12 =>
    some (((some (nwA p10.2)), ()), h12))
  else
    (none)
def rs_wicketref16_Buffer_Copy : Rs := [(.tmp 2, .ptr)]
def ps_wicketref16_Buffer_Copy : List Ty := [.ptr]
theorem e_wicketref16_Buffer_Copy (n : Nat) (u0 : Option Addr) (h : Heap) : f_wicketref16_Buffer_Copy n u0 h = fB (sf_wicketref16_Buffer_Copy n) (it_wicketref16_Buffer_Copy n) n c2_wicketref16_Buffer_Copy rs_wicketref16_Buffer_Copy ps_wicketref16_Buffer_Copy (u0, ()) h := by kernel_rfl
noncomputable def s_wicketref16_Buffer_Copy (n : Nat) : Sf1 := mkSf ps_wicketref16_Buffer_Copy rs_wicketref16_Buffer_Copy fun a h => f_wicketref16_Buffer_Copy n a.1 h

/- (*wicket/buffer.Buffer).Form -/
def c2_buffer_Buffer_Form : C2 :=
  .seq (.reg [(⟨(some 2), .move (.const (.slice none 0 0)), none⟩, .any)]) <|
  .seq (.seq (.reg [(⟨(some 3), .move (.tmp 0), none⟩, .ptr),
        (⟨(some 4), .eqv false .ptr (.tmp 3) (.const (.pointer none)), none⟩, .bool)]) <|
    .cond (.tmp 4)
      (.seq (.reg [(⟨(some 2), .move (.const (.slice none 0 0)), none⟩, .any)]) <|
      .ret)
      (.skip)) <|
  .seq (.reg [(⟨(some 5), .move (.tmp 0), none⟩, .ptr),
      (⟨(some 6), .nilCheck (.tmp 5), none⟩, .ptr),
      (⟨(some 7), .fieldAddr 0 (.tmp 6), none⟩, .ptr),
      (⟨(some 8), .load false 1 (.tmp 7), none⟩, .any),
      (⟨(some 9), .call k_slices_Clone_int_int [(.tmp 8)], none⟩, .any),
      (⟨(some 2), .move (.tmp 9), none⟩, .any)]) <|
  .ret
noncomputable def sf_buffer_Buffer_Form (n : Nat) : Sf := sfOf [(k_slices_Clone_int_int, s_slices_Clone_int_int n)]
noncomputable def it_buffer_Buffer_Form (n : Nat) : It := itOf []
def f_buffer_Buffer_Form (n : Nat) (u0 : Option Addr) (h : Heap) : Option ((Value × Unit) × Heap) :=
  bif (Option.isNone u0) then
    (some (((.slice none 0 0), ()), h))
  else
    ((u0).bind fun q0 =>
    (ldT .any h (some (fa q0 0))).bind fun x1 =>
    (f_slices_Clone_int_int n x1 h).bind fun p2 =>
    bif !isTuple p2.1.1 then
      (some ((p2.1.1, ()), p2.2))
    else
      (none))
def rs_buffer_Buffer_Form : Rs := [(.tmp 2, .any)]
def ps_buffer_Buffer_Form : List Ty := [.ptr]
theorem e_buffer_Buffer_Form (n : Nat) (u0 : Option Addr) (h : Heap) : f_buffer_Buffer_Form n u0 h = fB (sf_buffer_Buffer_Form n) (it_buffer_Buffer_Form n) n c2_buffer_Buffer_Form rs_buffer_Buffer_Form ps_buffer_Buffer_Form (u0, ()) h := by kernel_rfl
noncomputable def s_buffer_Buffer_Form (n : Nat) : Sf1 := mkSf ps_buffer_Buffer_Form rs_buffer_Buffer_Form fun a h => f_buffer_Buffer_Form n a.1 h

/- wicket/wicketref05.Has -/
def c2_wicketref05_Has : C2 :=
  .seq (.reg [(⟨(some 4), .move (.const (.bool false)), none⟩, .bool)]) <|
  .seq (.seq (.reg [(⟨(some 5), .move (.const (.int .i64 0)), none⟩, (.int .i64))]) <|
    .block 0 <|
      .loop [(5, (.int .i64))] <|
        .seq (.seq (.reg [(⟨(some 6), .move (.tmp 5), none⟩, (.int .i64)),
              (⟨(some 7), .move (.tmp 0), none⟩, .any),
              (⟨(some 8), .lenS (.tmp 7), none⟩, (.int .i64)),
              (⟨(some 9), .bin .lss (.tmp 6) (.tmp 8), none⟩, .bool)]) <|
          .cond (.tmp 9)
            (.skip)
            (.exit 0)) <|
        .seq (.block 1 <|
            .seq (.reg [(⟨(some 12), .move (.tmp 0), none⟩, .any),
                (⟨(some 13), .move (.tmp 5), none⟩, (.int .i64)),
                (⟨(some 14), .idxSlice 1 (.tmp 12) (.tmp 13), none⟩, .ptr),
                (⟨(some 15), .load false 1 (.tmp 14), none⟩, (.int .i64)),
                (⟨(some 16), .move (.tmp 1), none⟩, (.int .i64)),
                (⟨(some 17), .bin .eql (.tmp 15) (.tmp 16), none⟩, .bool)]) <|
            .cond (.tmp 17)
              (.seq (.reg [(⟨(some 4), .move (.const (.bool true)), none⟩, .bool)]) <|
              .ret)
              (.skip)) <|
        .reg [(⟨(some 10), .move (.tmp 5), none⟩, (.int .i64)),
          (⟨(some 11), .bin .add (.tmp 10) (.const (.int .i64 1)), none⟩, (.int .i64)),
          (⟨(some 5), .move (.tmp 11), none⟩, (.int .i64))]) <|
  .seq (.reg [(⟨(some 4), .move (.const (.bool false)), none⟩, .bool)]) <|
  .ret
def f_wicketref05_Has_L5 (n : Nat) (u1 : Int) (u0 : Value) (v0 : Int) (h1 : Heap) : Option (((Int × Unit) × Heap) ⊕ ((Bool × Unit) × Heap)) :=
  (lenB u0).bind fun n2 =>
  bif (decide (v0 < (n2 : Int))) then
    ((ixB 1 u0 v0).bind fun q3 =>
    (ldT (.int .i64) h1 (some q3)).bind fun x4 =>
    bif (decide (x4 = u1)) then
      (some (.inr ((true, ()), h1)))
    else
      (some (.inl (((IntKind.i64.wrap (v0 + 1)), ()), h1))))
  else
    (some (.inr ((false, ()), h1)))
noncomputable def sf_wicketref05_Has (n : Nat) : Sf := sfOf []
noncomputable def it_wicketref05_Has (n : Nat) : It := itOf []
def f_wicketref05_Has (n : Nat) (u0 : Value) (u1 : Int) (h : Heap) : Option ((Bool × Unit) × Heap) :=
  loopT (fun a => f_wicketref05_Has_L5 n u1 u0 a.1.1 a.2) n ((0, ()), h)
def rs_wicketref05_Has : Rs := [(.tmp 4, .bool)]
def ps_wicketref05_Has : List Ty := [.any, (.int .i64)]
theorem e_wicketref05_Has (n : Nat) (u0 : Value) (u1 : Int) (h : Heap) : f_wicketref05_Has n u0 u1 h = fB (sf_wicketref05_Has n) (it_wicketref05_Has n) n c2_wicketref05_Has rs_wicketref05_Has ps_wicketref05_Has (u0, (u1, ())) h := by kernel_rfl
noncomputable def s_wicketref05_Has (n : Nat) : Sf1 := mkSf ps_wicketref05_Has rs_wicketref05_Has fun a h => f_wicketref05_Has n a.1 a.2.1 h

/- slices.Index[[]int,int] -/
def c2_slices_Index_int_int : C2 :=
  .seq (.reg [(⟨(some 4), .move (.const (.int .i64 0)), none⟩, (.int .i64))]) <|
  .seq (.seq (.reg [(⟨(some 6), .move (.tmp 0), none⟩, .any),
        (⟨(some 7), .lenS (.tmp 6), none⟩, (.int .i64)),
        (⟨(some 8), .move (.const (.int .i64 0)), none⟩, (.int .i64))]) <|
    .block 0 <|
      .loop [(8, (.int .i64))] <|
        .seq (.reg [(⟨(some 9), .bin .lss (.tmp 8) (.tmp 7), none⟩, .any)]) <|
        .seq (.cond (.tmp 9)
            (.skip)
            (.exit 0)) <|
        .seq (.block 1 <|
            .seq (.reg [(⟨(some 10), .move (.tmp 8), none⟩, (.int .i64)),
                (⟨(some 5), .move (.tmp 10), none⟩, (.int .i64))]) <|
            .seq (.reg [(⟨(some 11), .move (.tmp 1), none⟩, (.int .i64)),
                (⟨(some 12), .move (.tmp 0), none⟩, .any),
                (⟨(some 13), .move (.tmp 5), none⟩, (.int .i64)),
                (⟨(some 14), .idxSlice 1 (.tmp 12) (.tmp 13), none⟩, .ptr),
                (⟨(some 15), .load false 1 (.tmp 14), none⟩, (.int .i64)),
                (⟨(some 16), .bin .eql (.tmp 11) (.tmp 15), none⟩, .bool)]) <|
            .cond (.tmp 16)
              (.seq (.reg [(⟨(some 17), .move (.tmp 5), none⟩, (.int .i64)),
                  (⟨(some 4), .move (.tmp 17), none⟩, (.int .i64))]) <|
              .ret)
              (.skip)) <|
        .reg [(⟨(some 18), .bin .add (.tmp 8) (.const (.int .i64 1)), none⟩, (.int .i64)),
          (⟨(some 8), .move (.tmp 18), none⟩, (.int .i64))]) <|
  .seq (.reg [(⟨(some 4), .move (.const (.int .i64 (-1))), none⟩, (.int .i64))]) <|
  .ret
def f_slices_Index_int_int_L5 (n : Nat) (u1 : Int) (u0 : Value) (n0 : Nat) (v1 : Int) (h2 : Heap) : Option (((Int × Unit) × Heap) ⊕ ((Int × Unit) × Heap)) :=
  bif (decide (v1 < (n0 : Int))) then
    ((ixB 1 u0 v1).bind fun q3 =>
    (ldT (.int .i64) h2 (some q3)).bind fun x4 =>
    bif (decide (u1 = x4)) then
      (some (.inr ((v1, ()), h2)))
    else
      (some (.inl (((IntKind.i64.wrap (v1 + 1)), ()), h2))))
  else
    (some (.inr (((-1), ()), h2)))
noncomputable def sf_slices_Index_int_int (n : Nat) : Sf := sfOf []
noncomputable def it_slices_Index_int_int (n : Nat) : It := itOf []
def f_slices_Index_int_int (n : Nat) (u0 : Value) (u1 : Int) (h : Heap) : Option ((Int × Unit) × Heap) :=
  (lenB u0).bind fun n0 =>
  loopT (fun a => f_slices_Index_int_int_L5 n u1 u0 n0 a.1.1 a.2) n ((0, ()), h)
def rs_slices_Index_int_int : Rs := [(.tmp 4, (.int .i64))]
def ps_slices_Index_int_int : List Ty := [.any, (.int .i64)]
theorem e_slices_Index_int_int (n : Nat) (u0 : Value) (u1 : Int) (h : Heap) : f_slices_Index_int_int n u0 u1 h = fB (sf_slices_Index_int_int n) (it_slices_Index_int_int n) n c2_slices_Index_int_int rs_slices_Index_int_int ps_slices_Index_int_int (u0, (u1, ())) h := by kernel_rfl
noncomputable def s_slices_Index_int_int (n : Nat) : Sf1 := mkSf ps_slices_Index_int_int rs_slices_Index_int_int fun a h => f_slices_Index_int_int n a.1 a.2.1 h

/- wicket/wicketlaw05.Roomy -/
def c2_wicketlaw05_Roomy : C2 :=
  .seq (.reg [(⟨(some 2), .move (.const (.slice none 0 0)), none⟩, .any)]) <|
  .seq (.reg [(⟨(some 3), .move (.tmp 0), none⟩, .any),
      (⟨(some 4), .call k_wicketlaw05_Own [(.tmp 3)], none⟩, .any),
      (⟨(some 5), .buildSlice 2 1 [(.int .i64 0), (.int .i64 0)] [(0, 1, (.const (.int .i64 7777))), (1, 1, (.const (.int .i64 8888)))], none⟩, .any),
      (⟨(some 6), .append 8 1 (.tmp 4) (.tmp 5), none⟩, .any),
      (⟨(some 7), .move (.tmp 0), none⟩, .any),
      (⟨(some 8), .lenS (.tmp 7), none⟩, (.int .i64)),
      (⟨(some 9), .slice 1 (.tmp 6) none (some (.tmp 8)) none, none⟩, .any),
      (⟨(some 2), .move (.tmp 9), none⟩, .any)]) <|
  .ret
noncomputable def sf_wicketlaw05_Roomy (n : Nat) : Sf := sfOf [(k_wicketlaw05_Own, s_wicketlaw05_Own n)]
noncomputable def it_wicketlaw05_Roomy (n : Nat) : It := itOf []
def f_wicketlaw05_Roomy (n : Nat) (u0 : Value) (h : Heap) : Option ((Value × Unit) × Heap) :=
  (f_wicketlaw05_Own n u0 h).bind fun p0 =>
  (fillL [(.int .i64 0), (.int .i64 0)] [(0, 1, (.int .i64 7777)), (1, 1, (.int .i64 8888))]).bind fun cs1 =>
  bnd ((Heap.new p0.2 (.cells cs1 false 1))) fun h2 =>
  (appendK h2 8 1 p0.1.1 (.slice (some ⟨Heap.next p0.2, 0, some 0⟩) 2 2)).bind fun p3 =>
  (lenB u0).bind fun n4 =>
  (sliceK p3.2 1 none (some (.int .i64 (n4 : Int))) none p3.1).bind fun p5 =>
  bif !isTuple p5.1 then
    (some ((p5.1, ()), p3.2))
  else
    (none)
def rs_wicketlaw05_Roomy : Rs := [(.tmp 2, .any)]
def ps_wicketlaw05_Roomy : List Ty := [.any]
theorem e_wicketlaw05_Roomy (n : Nat) (u0 : Value) (h : Heap) : f_wicketlaw05_Roomy n u0 h = fB (sf_wicketlaw05_Roomy n) (it_wicketlaw05_Roomy n) n c2_wicketlaw05_Roomy rs_wicketlaw05_Roomy ps_wicketlaw05_Roomy (u0, ()) h := by kernel_rfl
noncomputable def s_wicketlaw05_Roomy (n : Nat) : Sf1 := mkSf ps_wicketlaw05_Roomy rs_wicketlaw05_Roomy fun a h => f_wicketlaw05_Roomy n a.1 h

/- wicket/buffer.New -/
def c2_buffer_New : C2 :=
  .seq (.reg [(⟨(some 2), .move (.const (.pointer none)), none⟩, .ptr),
      (⟨(some 3), .move (.const (.int .i64 0)), none⟩, (.int .i64))]) <|
  .seq (.seq (.reg [(⟨(some 4), .move (.tmp 0), none⟩, .any),
        (⟨(some 5), .call k_blocks_Is [(.tmp 4)], none⟩, .bool),
        (⟨(some 6), .un .not (.tmp 5), none⟩, .bool)]) <|
    .cond (.tmp 6)
      (.seq (.reg [(⟨(some 2), .move (.const (.pointer none)), none⟩, .ptr),
          (⟨(some 3), .move (.const (.int .i64 53)), none⟩, (.int .i64))]) <|
      .ret)
      (.skip)) <|
  .seq (.reg [(⟨(some 7), .move (.tmp 0), none⟩, .any),
      (⟨(some 8), .call k_slices_Clone_int_int [(.tmp 7)], none⟩, .any),
      (⟨(some 9), .makeMap, none⟩, .any),
      (⟨(some 10), .build [(.slice none 0 0), (.map none)] [(0, 1, (.tmp 8)), (1, 1, (.tmp 9))], none⟩, .any),
      (⟨(some 11), .box (.tmp 10), none⟩, .ptr),
      (⟨(some 2), .move (.tmp 11), none⟩, .ptr),
      (⟨(some 3), .move (.const (.int .i64 0)), none⟩, (.int .i64))]) <|
  .ret
noncomputable def sf_buffer_New (n : Nat) : Sf := sfOf [(k_blocks_Is, s_blocks_Is n), (k_slices_Clone_int_int, s_slices_Clone_int_int n)]
noncomputable def it_buffer_New (n : Nat) : It := itOf []
def f_buffer_New (n : Nat) (u0 : Value) (h : Heap) : Option ((Option Addr × Int × Unit) × Heap) :=
  (f_blocks_Is n u0 h).bind fun p0 =>
  bif (!p0.1.1) then
    (some ((none, (53, ())), p0.2))
  else
    ((f_slices_Clone_int_int n u0 p0.2).bind fun p1 =>
    bnd ((Heap.new p1.2 (.map []))) fun h2 =>
    (fillL [(.slice none 0 0), (.map none)] [(0, 1, p1.1.1), (1, 1, (.map (some (Heap.next p1.2))))]).bind fun cs3 =>
    bif (cs3 : List Value).all isCell then
      (bnd ((Heap.new h2 (.cells cs3 false 0))) fun h4 =>
      some (((some (nwA h2)), (0, ())), h4))
    else
      (none))
def rs_buffer_New : Rs := [(.tmp 2, .ptr), (.tmp 3, (.int .i64))]
def ps_buffer_New : List Ty := [.any]
theorem e_buffer_New (n : Nat) (u0 : Value) (h : Heap) : f_buffer_New n u0 h = fB (sf_buffer_New n) (it_buffer_New n) n c2_buffer_New rs_buffer_New ps_buffer_New (u0, ()) h := by kernel_rfl
noncomputable def s_buffer_New (n : Nat) : Sf1 := mkSf ps_buffer_New rs_buffer_New fun a h => f_buffer_New n a.1 h

/- wicket/wicketref16.New -/
def c2_wicketref16_New : C2 :=
  .seq (.reg [(⟨(some 2), .move (.const (.pointer none)), none⟩, .ptr),
      (⟨(some 3), .move (.const (.int .i64 0)), none⟩, (.int .i64))]) <|
  .seq (.seq (.reg [(⟨(some 4), .move (.tmp 0), none⟩, .any),
        (⟨(some 5), .call k_wicketref05_Is [(.tmp 4)], none⟩, .bool),
        (⟨(some 6), .un .not (.tmp 5), none⟩, .bool)]) <|
    .cond (.tmp 6)
      (.seq (.reg [(⟨(some 2), .move (.const (.pointer none)), none⟩, .ptr),
          (⟨(some 3), .move (.const (.int .i64 53)), none⟩, (.int .i64))]) <|
      .ret)
      (.skip)) <|
  .seq (.reg [(⟨(some 7), .buildSlice 0 1 [] [], none⟩, .any),
      (⟨(some 8), .move (.tmp 0), none⟩, .any),
      (⟨(some 9), .append 8 1 (.tmp 7) (.tmp 8), none⟩, .any),
      (⟨(some 10), .build [(.slice none 0 0), (.slice none 0 0)] [(0, 1, (.tmp 9))], none⟩, .any),
      (⟨(some 11), .box (.tmp 10), none⟩, .ptr),
      (⟨(some 2), .move (.tmp 11), none⟩, .ptr),
      (⟨(some 3), .move (.const (.int .i64 0)), none⟩, (.int .i64))]) <|
  .ret
noncomputable def sf_wicketref16_New (n : Nat) : Sf := sfOf [(k_wicketref05_Is, s_wicketref05_Is n)]
noncomputable def it_wicketref16_New (n : Nat) : It := itOf []
def f_wicketref16_New (n : Nat) (u0 : Value) (h : Heap) : Option ((Option Addr × Int × Unit) × Heap) :=
  (f_wicketref05_Is n u0 h).bind fun p0 =>
  bif (!p0.1.1) then
    (some ((none, (53, ())), p0.2))
  else
    ((fillL [] []).bind fun cs1 =>
    bnd ((Heap.new p0.2 (.cells cs1 false 1))) fun h2 =>
    (appendK h2 8 1 (.slice (some ⟨Heap.next p0.2, 0, some 0⟩) 0 0) u0).bind fun p3 =>
    (fillL [(.slice none 0 0), (.slice none 0 0)] [(0, 1, p3.1)]).bind fun cs4 =>
    bif (cs4 : List Value).all isCell then
      (bnd ((Heap.new p3.2 (.cells cs4 false 0))) fun h5 =>
      some (((some (nwA p3.2)), (0, ())), h5))
    else
      (none))
def rs_wicketref16_New : Rs := [(.tmp 2, .ptr), (.tmp 3, (.int .i64))]
def ps_wicketref16_New : List Ty := [.any]
theorem e_wicketref16_New (n : Nat) (u0 : Value) (h : Heap) : f_wicketref16_New n u0 h = fB (sf_wicketref16_New n) (it_wicketref16_New n) n c2_wicketref16_New rs_wicketref16_New ps_wicketref16_New (u0, ()) h := by kernel_rfl
noncomputable def s_wicketref16_New (n : Nat) : Sf1 := mkSf ps_wicketref16_New rs_wicketref16_New fun a h => f_wicketref16_New n a.1 h

/- wicket/wicketlaw05.Held -/
def c2_wicketlaw05_Held : C2 :=
  .seq (.reg [(⟨(some 4), .move (.const (.bool false)), none⟩, .bool)]) <|
  .seq (.reg [(⟨(some 6), .move (.tmp 0), none⟩, .any),
      (⟨(some 7), .move (.tmp 1), none⟩, .any),
      (⟨(some 8), .lenS (.tmp 7), none⟩, (.int .i64)),
      (⟨(some 9), .bin .add (.tmp 8) (.const (.int .i64 2)), none⟩, (.int .i64)),
      (⟨(some 10), .slice 1 (.tmp 6) none (some (.tmp 9)) none, none⟩, .any),
      (⟨(some 5), .move (.tmp 10), none⟩, .any)]) <|
  .seq (.reg [(⟨(some 11), .move (.tmp 5), none⟩, .any),
      (⟨(some 12), .move (.tmp 1), none⟩, .any),
      (⟨(some 13), .lenS (.tmp 12), none⟩, (.int .i64)),
      (⟨(some 14), .slice 1 (.tmp 11) none (some (.tmp 13)) none, none⟩, .any),
      (⟨(some 15), .move (.tmp 1), none⟩, .any),
      (⟨(some 16), .call k_wicketref05_Same [(.tmp 14), (.tmp 15)], none⟩, .bool),
      (⟨(some 17), .move (.tmp 16), none⟩, .bool),
      (⟨(some 18), .move (.tmp 5), some (17, true)⟩, .any),
      (⟨(some 19), .move (.tmp 1), some (17, true)⟩, .any),
      (⟨(some 20), .lenS (.tmp 19), some (17, true)⟩, (.int .i64)),
      (⟨(some 21), .idxSlice 1 (.tmp 18) (.tmp 20), some (17, true)⟩, .ptr),
      (⟨(some 22), .load false 1 (.tmp 21), some (17, true)⟩, (.int .i64)),
      (⟨(some 23), .bin .eql (.tmp 22) (.const (.int .i64 7777)), some (17, true)⟩, .bool),
      (⟨(some 24), .pick (.tmp 17) (.tmp 23) (.const (.bool false)), none⟩, .bool),
      (⟨(some 25), .move (.tmp 24), none⟩, .bool),
      (⟨(some 26), .move (.tmp 5), some (25, true)⟩, .any),
      (⟨(some 27), .move (.tmp 1), some (25, true)⟩, .any),
      (⟨(some 28), .lenS (.tmp 27), some (25, true)⟩, (.int .i64)),
      (⟨(some 29), .bin .add (.tmp 28) (.const (.int .i64 1)), some (25, true)⟩, (.int .i64)),
      (⟨(some 30), .idxSlice 1 (.tmp 26) (.tmp 29), some (25, true)⟩, .ptr),
      (⟨(some 31), .load false 1 (.tmp 30), some (25, true)⟩, (.int .i64)),
      (⟨(some 32), .bin .eql (.tmp 31) (.const (.int .i64 8888)), some (25, true)⟩, .bool),
      (⟨(some 33), .pick (.tmp 25) (.tmp 32) (.const (.bool false)), none⟩, .bool),
      (⟨(some 4), .move (.tmp 33), none⟩, .bool)]) <|
  .ret
noncomputable def sf_wicketlaw05_Held (n : Nat) : Sf := sfOf [(k_wicketref05_Same, s_wicketref05_Same n)]
noncomputable def it_wicketlaw05_Held (n : Nat) : It := itOf []
def f_wicketlaw05_Held (n : Nat) (u0 : Value) (u1 : Value) (h : Heap) : Option ((Bool × Unit) × Heap) :=
  (lenB u1).bind fun n0 =>
  (sliceK h 1 none (some (.int .i64 (IntKind.i64.wrap ((n0 : Int) + 2)))) none u0).bind fun p1 =>
  (lenB u1).bind fun n2 =>
  (sliceK h 1 none (some (.int .i64 (n2 : Int))) none p1.1).bind fun p3 =>
  (f_wicketref05_Same n p3.1 u1 h).bind fun p4 =>
  bif p4.1.1 then
    ((lenB u1).bind fun n5 =>
    (ixB 1 p1.1 (n5 : Int)).bind fun q6 =>
    (ldT (.int .i64) p4.2 (some q6)).bind fun x7 =>
    bif (decide (x7 = 7777)) then
      ((lenB u1).bind fun n8 =>
      (ixB 1 p1.1 (IntKind.i64.wrap ((n8 : Int) + 1))).bind fun q9 =>
      (ldT (.int .i64) p4.2 (some q9)).bind fun x10 =>
      some (((decide (x10 = 8888)), ()), p4.2))
    else
      (some ((false, ()), p4.2)))
  else
    (some ((false, ()), p4.2))
def rs_wicketlaw05_Held : Rs := [(.tmp 4, .bool)]
def ps_wicketlaw05_Held : List Ty := [.any, .any]
theorem e_wicketlaw05_Held (n : Nat) (u0 : Value) (u1 : Value) (h : Heap) : f_wicketlaw05_Held n u0 u1 h = fB (sf_wicketlaw05_Held n) (it_wicketlaw05_Held n) n c2_wicketlaw05_Held rs_wicketlaw05_Held ps_wicketlaw05_Held (u0, (u1, ())) h := by kernel_rfl
noncomputable def s_wicketlaw05_Held (n : Nat) : Sf1 := mkSf ps_wicketlaw05_Held rs_wicketlaw05_Held fun a h => f_wicketlaw05_Held n a.1 a.2.1 h

/- (*wicket/wicketref16.Buffer).Write -/
def c2_wicketref16_Buffer_Write : C2 :=
  .seq (.reg [(⟨(some 5), .box (.tmp 2), none⟩, .ptr),
      (⟨(some 6), .move (.const (.int .i64 0)), none⟩, (.int .i64))]) <|
  .seq (.seq (.reg [(⟨(some 7), .move (.tmp 0), none⟩, .ptr),
        (⟨(some 8), .nilCheck (.tmp 7), none⟩, .ptr),
        (⟨(some 9), .fieldAddr 0 (.tmp 8), none⟩, .ptr),
        (⟨(some 10), .load false 1 (.tmp 9), none⟩, .any),
        (⟨(some 11), .move (.tmp 1), none⟩, (.int .i64)),
        (⟨(some 12), .call k_wicketref05_Has [(.tmp 10), (.tmp 11)], none⟩, .bool),
        (⟨(some 13), .un .not (.tmp 12), none⟩, .bool)]) <|
    .cond (.tmp 13)
      (.seq (.reg [(⟨(some 6), .move (.const (.int .i64 160)), none⟩, (.int .i64))]) <|
      .ret)
      (.skip)) <|
  .seq (.regd [(⟨0, [], false, ⟨(some 14), .move (.tmp 0), none⟩⟩, .ptr),
      (⟨1, [], false, ⟨(some 15), .move (.tmp 0), none⟩⟩, .ptr),
      (⟨2, [1], false, ⟨(some 16), .nilCheck (.tmp 15), none⟩⟩, .ptr),
      (⟨3, [2, 1], false, ⟨(some 17), .fieldAddr 1 (.tmp 16), none⟩⟩, .ptr),
      (⟨4, [3, 2, 1], false, ⟨(some 18), .load false 1 (.tmp 17), none⟩⟩, .any),
      (⟨5, [], false, ⟨(some 19), .move (.tmp 1), none⟩⟩, (.int .i64)),
      (⟨6, [], false, ⟨(some 20), .load true 32 (.tmp 5), none⟩⟩, .any),
      (⟨7, [5, 6], false, ⟨(some 21), .build [(.int .i64 0), (.int .u8 0), (.int .u8 0), (.int .u8 0), (.int .u8 0), (.int .u8 0), (.int .u8 0), (.int .u8 0), (.int .u8 0), (.int .u8 0), (.int .u8 0), (.int .u8 0), (.int .u8 0), (.int .u8 0), (.int .u8 0), (.int .u8 0), (.int .u8 0), (.int .u8 0), (.int .u8 0), (.int .u8 0), (.int .u8 0), (.int .u8 0), (.int .u8 0), (.int .u8 0), (.int .u8 0), (.int .u8 0), (.int .u8 0), (.int .u8 0), (.int .u8 0), (.int .u8 0), (.int .u8 0), (.int .u8 0), (.int .u8 0)] [(0, 1, (.tmp 19)), (1, 32, (.tmp 20))], none⟩⟩, .any),
      (⟨8, [7, 5, 6], false, ⟨(some 22), .buildSlice 1 33 [(.int .i64 0), (.int .u8 0), (.int .u8 0), (.int .u8 0), (.int .u8 0), (.int .u8 0), (.int .u8 0), (.int .u8 0), (.int .u8 0), (.int .u8 0), (.int .u8 0), (.int .u8 0), (.int .u8 0), (.int .u8 0), (.int .u8 0), (.int .u8 0), (.int .u8 0), (.int .u8 0), (.int .u8 0), (.int .u8 0), (.int .u8 0), (.int .u8 0), (.int .u8 0), (.int .u8 0), (.int .u8 0), (.int .u8 0), (.int .u8 0), (.int .u8 0), (.int .u8 0), (.int .u8 0), (.int .u8 0), (.int .u8 0), (.int .u8 0)] [(0, 33, (.tmp 21))], none⟩⟩, .any),
      (⟨9, [4, 8, 3, 2, 1, 7, 5, 6], true, ⟨(some 23), .append 40 33 (.tmp 18) (.tmp 22), none⟩⟩, .any),
      (⟨10, [0, 1, 2, 3, 4, 5, 6, 7, 8, 9], false, ⟨(some 24), .nilCheck (.tmp 14), none⟩⟩, .ptr),
      (⟨11, [10, 0, 1, 2, 3, 4, 5, 6, 7, 8, 9], false, ⟨(some 25), .fieldAddr 1 (.tmp 24), none⟩⟩, .ptr),
      (⟨12, [11, 9, 0, 1, 2, 3, 4, 5, 6, 7, 8, 10], true, ⟨none, .store 1 (.tmp 25) (.tmp 23), none⟩⟩, .any)]) <|
  .seq (.reg [(⟨(some 6), .move (.const (.int .i64 0)), none⟩, (.int .i64))]) <|
  .ret
noncomputable def sf_wicketref16_Buffer_Write (n : Nat) : Sf := sfOf [(k_wicketref05_Has, s_wicketref05_Has n)]
noncomputable def it_wicketref16_Buffer_Write (n : Nat) : It := itOf []
def f_wicketref16_Buffer_Write (n : Nat) (u0 : Option Addr) (u1 : Int) (u2 : Value) (h : Heap) : Option ((Int × Unit) × Heap) :=
  bif (cellsOf u2).all isCell then
    (bnd ((Heap.new h (.cells (cellsOf u2) false 0))) fun h0 =>
    (u0).bind fun q1 =>
    (ldT .any h0 (some (fa q1 0))).bind fun x2 =>
    (f_wicketref05_Has n x2 u1 h0).bind fun p3 =>
    bif (!p3.1.1) then
      (some ((160, ()), p3.2))
    else
      ((u0).bind fun q4 =>
      (ldT .any p3.2 (some (fa q4 1))).bind fun x5 =>
      (ldA 32 p3.2 (some (nwA h))).bind fun cs6 =>
      (fillL [(.int .i64 0), (.int .u8 0), (.int .u8 0), (.int .u8 0), (.int .u8 0), (.int .u8 0), (.int .u8 0), (.int .u8 0), (.int .u8 0), (.int .u8 0), (.int .u8 0), (.int .u8 0), (.int .u8 0), (.int .u8 0), (.int .u8 0), (.int .u8 0), (.int .u8 0), (.int .u8 0), (.int .u8 0), (.int .u8 0), (.int .u8 0), (.int .u8 0), (.int .u8 0), (.int .u8 0), (.int .u8 0), (.int .u8 0), (.int .u8 0), (.int .u8 0), (.int .u8 0), (.int .u8 0), (.int .u8 0), (.int .u8 0), (.int .u8 0)] [(0, 1, (.int .i64 u1)), (1, 32, (.agg ⟨cs6⟩))]).bind fun cs7 =>
      (fillL [(.int .i64 0), (.int .u8 0), (.int .u8 0), (.int .u8 0), (.int .u8 0), (.int .u8 0), (.int .u8 0), (.int .u8 0), (.int .u8 0), (.int .u8 0), (.int .u8 0), (.int .u8 0), (.int .u8 0), (.int .u8 0), (.int .u8 0), (.int .u8 0), (.int .u8 0), (.int .u8 0), (.int .u8 0), (.int .u8 0), (.int .u8 0), (.int .u8 0), (.int .u8 0), (.int .u8 0), (.int .u8 0), (.int .u8 0), (.int .u8 0), (.int .u8 0), (.int .u8 0), (.int .u8 0), (.int .u8 0), (.int .u8 0), (.int .u8 0)] [(0, 33, (.agg ⟨cs7⟩))]).bind fun cs8 =>
      bnd ((Heap.new p3.2 (.cells cs8 false 33))) fun h9 =>
      (appendK h9 40 33 x5 (.slice (some ⟨Heap.next p3.2, 0, some 0⟩) 1 1)).bind fun p10 =>
      (u0).bind fun q11 =>
      (stB 1 p10.1 p10.2 (some (fa q11 1))).bind fun h12 =>
      some ((0, ()), h12)))
  else
    (none)
def rs_wicketref16_Buffer_Write : Rs := [(.tmp 6, (.int .i64))]
def ps_wicketref16_Buffer_Write : List Ty := [.ptr, (.int .i64), .any]
theorem e_wicketref16_Buffer_Write (n : Nat) (u0 : Option Addr) (u1 : Int) (u2 : Value) (h : Heap) : f_wicketref16_Buffer_Write n u0 u1 u2 h = fB (sf_wicketref16_Buffer_Write n) (it_wicketref16_Buffer_Write n) n c2_wicketref16_Buffer_Write rs_wicketref16_Buffer_Write ps_wicketref16_Buffer_Write (u0, (u1, (u2, ()))) h := by kernel_rfl
noncomputable def s_wicketref16_Buffer_Write (n : Nat) : Sf1 := mkSf ps_wicketref16_Buffer_Write rs_wicketref16_Buffer_Write fun a h => f_wicketref16_Buffer_Write n a.1 a.2.1 a.2.2.1 h

/- (*wicket/wicketref16.Buffer).Read -/
def c2_wicketref16_Buffer_Read : C2 :=
  .seq (.reg [(⟨(some 4), .alloc (List.replicate 32 (.int .u8 0)), none⟩, .ptr),
      (⟨(some 5), .move (.const (.bool false)), none⟩, .bool),
      (⟨(some 6), .move (.const (.int .i64 0)), none⟩, (.int .i64))]) <|
  .seq (.seq (.reg [(⟨(some 8), .move (.tmp 0), none⟩, .ptr),
        (⟨(some 9), .nilCheck (.tmp 8), none⟩, .ptr),
        (⟨(some 10), .fieldAddr 0 (.tmp 9), none⟩, .ptr),
        (⟨(some 11), .load false 1 (.tmp 10), none⟩, .any),
        (⟨(some 12), .move (.tmp 1), none⟩, (.int .i64)),
        (⟨(some 13), .call k_wicketref05_Has [(.tmp 11), (.tmp 12)], none⟩, .bool),
        (⟨(some 14), .un .not (.tmp 13), none⟩, .bool)]) <|
    .cond (.tmp 14)
      (.seq (.reg [(⟨(some 15), .build (List.replicate 32 (.int .u8 0)) [], none⟩, .any),
          (⟨none, .store 32 (.tmp 4) (.tmp 15), none⟩, .any),
          (⟨(some 5), .move (.const (.bool false)), none⟩, .bool),
          (⟨(some 6), .move (.const (.int .i64 160)), none⟩, (.int .i64))]) <|
      .ret)
      (.skip)) <|
  .seq (.cut [] <|
      .seq (.reg [(⟨(some 16), .move (.tmp 0), none⟩, .ptr),
          (⟨(some 17), .nilCheck (.tmp 16), none⟩, .ptr),
          (⟨(some 18), .fieldAddr 1 (.tmp 17), none⟩, .ptr),
          (⟨(some 19), .load false 1 (.tmp 18), none⟩, .any),
          (⟨(some 20), .lenS (.tmp 19), none⟩, (.int .i64)),
          (⟨(some 21), .bin .sub (.tmp 20) (.const (.int .i64 1)), none⟩, (.int .i64)),
          (⟨(some 7), .move (.tmp 21), none⟩, (.int .i64))]) <|
      .block 0 <|
        .loop [(7, (.int .i64))] <|
          .seq (.seq (.reg [(⟨(some 22), .move (.tmp 7), none⟩, (.int .i64)),
                (⟨(some 23), .bin .geq (.tmp 22) (.const (.int .i64 0)), none⟩, .bool)]) <|
            .cond (.tmp 23)
              (.skip)
              (.exit 0)) <|
          .seq (.block 1 <|
              .seq (.reg [(⟨(some 26), .move (.tmp 0), none⟩, .ptr),
                  (⟨(some 27), .nilCheck (.tmp 26), none⟩, .ptr),
                  (⟨(some 28), .fieldAddr 1 (.tmp 27), none⟩, .ptr),
                  (⟨(some 29), .load false 1 (.tmp 28), none⟩, .any),
                  (⟨(some 30), .move (.tmp 7), none⟩, (.int .i64)),
                  (⟨(some 31), .idxSlice 33 (.tmp 29) (.tmp 30), none⟩, .ptr),
                  (⟨(some 32), .fieldAddr 0 (.tmp 31), none⟩, .ptr),
                  (⟨(some 33), .load false 1 (.tmp 32), none⟩, (.int .i64)),
                  (⟨(some 34), .move (.tmp 1), none⟩, (.int .i64)),
                  (⟨(some 35), .bin .eql (.tmp 33) (.tmp 34), none⟩, .bool)]) <|
              .cond (.tmp 35)
                (.seq (.reg [(⟨(some 36), .move (.tmp 0), none⟩, .ptr),
                    (⟨(some 37), .nilCheck (.tmp 36), none⟩, .ptr),
                    (⟨(some 38), .fieldAddr 1 (.tmp 37), none⟩, .ptr),
                    (⟨(some 39), .load false 1 (.tmp 38), none⟩, .any),
                    (⟨(some 40), .move (.tmp 7), none⟩, (.int .i64)),
                    (⟨(some 41), .idxSlice 33 (.tmp 39) (.tmp 40), none⟩, .ptr),
                    (⟨(some 42), .fieldAddr 1 (.tmp 41), none⟩, .ptr),
                    (⟨(some 43), .load true 32 (.tmp 42), none⟩, .any),
                    (⟨none, .store 32 (.tmp 4) (.tmp 43), none⟩, .any),
                    (⟨(some 5), .move (.const (.bool true)), none⟩, .bool),
                    (⟨(some 6), .move (.const (.int .i64 0)), none⟩, (.int .i64))]) <|
                .ret)
                (.skip)) <|
          .reg [(⟨(some 24), .move (.tmp 7), none⟩, (.int .i64)),
            (⟨(some 25), .bin .sub (.tmp 24) (.const (.int .i64 1)), none⟩, (.int .i64)),
            (⟨(some 7), .move (.tmp 25), none⟩, (.int .i64))]) <|
  .seq (.reg [(⟨(some 44), .build (List.replicate 32 (.int .u8 0)) [], none⟩, .any),
      (⟨none, .store 32 (.tmp 4) (.tmp 44), none⟩, .any),
      (⟨(some 5), .move (.const (.bool false)), none⟩, .bool),
      (⟨(some 6), .move (.const (.int .i64 0)), none⟩, (.int .i64))]) <|
  .ret
def f_wicketref16_Buffer_Read_L23 (n : Nat) (h : Heap) (u1 : Int) (u0 : Option Addr) (v11 : Int) (h12 : Heap) : Option (((Int × Unit) × Heap) ⊕ (((Unit) × Heap) ⊕ ((Value × Bool × Int × Unit) × Heap))) :=
  bif (decide (0 ≤ v11)) then
    ((u0).bind fun q13 =>
    (ldT .any h12 (some (fa q13 1))).bind fun x14 =>
    (ixB 33 x14 v11).bind fun q15 =>
    (ldT (.int .i64) h12 (some (fa q15 0))).bind fun x16 =>
    bif (decide (x16 = u1)) then
      ((u0).bind fun q17 =>
      (ldT .any h12 (some (fa q17 1))).bind fun x18 =>
      (ixB 33 x18 v11).bind fun q19 =>
      (ldA 32 h12 (some (fa q19 1))).bind fun cs20 =>
      (stB 32 (.agg ⟨cs20⟩) h12 (some (nwA h))).bind fun h21 =>
      Option.map Sum.inr (Option.map Sum.inr ((ldA 32 h21 (some (nwA h))).bind fun cs22 =>
      some (((.agg ⟨cs22⟩), (true, (0, ()))), h21))))
    else
      (some (.inl (((IntKind.i64.wrap (v11 - 1)), ()), h12))))
  else
    (some (.inr (.inl ((), h12))))
def f_wicketref16_Buffer_Read_C24 (n : Nat) (h : Heap) (u1 : Int) (u0 : Option Addr) (h7 : Heap) : Option (((Unit) × Heap) ⊕ ((Value × Bool × Int × Unit) × Heap)) :=
  (u0).bind fun q8 =>
  (ldT .any h7 (some (fa q8 1))).bind fun x9 =>
  (lenB x9).bind fun n10 =>
  loopT (fun a => f_wicketref16_Buffer_Read_L23 n h u1 u0 a.1.1 a.2) n (((IntKind.i64.wrap ((n10 : Int) - 1)), ()), h7)
noncomputable def sf_wicketref16_Buffer_Read (n : Nat) : Sf := sfOf [(k_wicketref05_Has, s_wicketref05_Has n)]
noncomputable def it_wicketref16_Buffer_Read (n : Nat) : It := itOf []
def f_wicketref16_Buffer_Read (n : Nat) (u0 : Option Addr) (u1 : Int) (h : Heap) : Option ((Value × Bool × Int × Unit) × Heap) :=
  bnd ((Heap.new h (.cells (List.replicate 32 (.int .u8 0)) false 0))) fun h0 =>
  (u0).bind fun q1 =>
  (ldT .any h0 (some (fa q1 0))).bind fun x2 =>
  (f_wicketref05_Has n x2 u1 h0).bind fun p3 =>
  bif (!p3.1.1) then
    ((fillL (List.replicate 32 (.int .u8 0)) []).bind fun cs4 =>
    (stB 32 (.agg ⟨cs4⟩) p3.2 (some (nwA h))).bind fun h5 =>
    (ldA 32 h5 (some (nwA h))).bind fun cs6 =>
    some (((.agg ⟨cs6⟩), (false, (160, ()))), h5))
  else
    (thenB (f_wicketref16_Buffer_Read_C24 n h u1 u0 (p3.2)) fun a25 =>
    (fillL (List.replicate 32 (.int .u8 0)) []).bind fun cs26 =>
    (stB 32 (.agg ⟨cs26⟩) a25.2 (some (nwA h))).bind fun h27 =>
    (ldA 32 h27 (some (nwA h))).bind fun cs28 =>
    some (((.agg ⟨cs28⟩), (false, (0, ()))), h27))
def rs_wicketref16_Buffer_Read : Rs := [(.cell true 32 4, .any), (.tmp 5, .bool), (.tmp 6, (.int .i64))]
def ps_wicketref16_Buffer_Read : List Ty := [.ptr, (.int .i64)]
theorem e_wicketref16_Buffer_Read (n : Nat) (u0 : Option Addr) (u1 : Int) (h : Heap) : f_wicketref16_Buffer_Read n u0 u1 h = fB (sf_wicketref16_Buffer_Read n) (it_wicketref16_Buffer_Read n) n c2_wicketref16_Buffer_Read rs_wicketref16_Buffer_Read ps_wicketref16_Buffer_Read (u0, (u1, ())) h := by kernel_rfl
noncomputable def s_wicketref16_Buffer_Read (n : Nat) : Sf1 := mkSf ps_wicketref16_Buffer_Read rs_wicketref16_Buffer_Read fun a h => f_wicketref16_Buffer_Read n a.1 a.2.1 h

/- (*wicket/wicketref16.Buffer).Images -/
def c2_wicketref16_Buffer_Images : C2 :=
  .seq (.reg [(⟨(some 2), .move (.const (.slice none 0 0)), none⟩, .any)]) <|
  .seq (.reg [(⟨(some 3), .move (.const (.slice none 0 0)), none⟩, .any)]) <|
  .seq (.seq (.reg [(⟨(some 4), .move (.const (.int .i64 0)), none⟩, (.int .i64))]) <|
    .block 0 <|
      .loop [(3, .any), (4, (.int .i64))] <|
        .seq (.seq (.reg [(⟨(some 8), .move (.tmp 4), none⟩, (.int .i64)),
              (⟨(some 9), .move (.tmp 0), none⟩, .ptr),
              (⟨(some 10), .nilCheck (.tmp 9), none⟩, .ptr),
              (⟨(some 11), .fieldAddr 0 (.tmp 10), none⟩, .ptr),
              (⟨(some 12), .load false 1 (.tmp 11), none⟩, .any),
              (⟨(some 13), .lenS (.tmp 12), none⟩, (.int .i64)),
              (⟨(some 14), .bin .lss (.tmp 8) (.tmp 13), none⟩, .bool)]) <|
          .cond (.tmp 14)
            (.skip)
            (.exit 0)) <|
        .seq (.cutn [(3, .any)] <|
            .block 1 <|
              .seq (.reg [(⟨(some 18), .move (.tmp 0), none⟩, .ptr),
                  (⟨(some 19), .move (.tmp 0), none⟩, .ptr),
                  (⟨(some 20), .nilCheck (.tmp 19), none⟩, .ptr),
                  (⟨(some 21), .fieldAddr 0 (.tmp 20), none⟩, .ptr),
                  (⟨(some 22), .load false 1 (.tmp 21), none⟩, .any),
                  (⟨(some 23), .move (.tmp 4), none⟩, (.int .i64)),
                  (⟨(some 24), .idxSlice 1 (.tmp 22) (.tmp 23), none⟩, .ptr),
                  (⟨(some 25), .load false 1 (.tmp 24), none⟩, (.int .i64)),
                  (⟨(some 26), .call k_wicketref16_Buffer_Read [(.tmp 18), (.tmp 25)], none⟩, .any),
                  (⟨(some 17), .move (.tmp 26), none⟩, .any),
                  (⟨(some 27), .extract (.tmp 17) 0, none⟩, .any),
                  (⟨(some 28), .extract (.tmp 17) 1, none⟩, .bool),
                  (⟨(some 29), .extract (.tmp 17) 2, none⟩, (.int .i64)),
                  (⟨(some 5), .alloc (List.replicate 32 (.int .u8 0)), none⟩, .ptr),
                  (⟨none, .store 32 (.tmp 5) (.tmp 27), none⟩, .any),
                  (⟨(some 6), .move (.tmp 28), none⟩, .bool),
                  (⟨(some 7), .move (.tmp 29), none⟩, (.int .i64))]) <|
              .seq (.reg [(⟨(some 30), .move (.tmp 6), none⟩, .bool)]) <|
              .cond (.tmp 30)
                (.regd [(⟨0, [], false, ⟨(some 31), .move (.tmp 3), none⟩⟩, .any),
                  (⟨1, [], false, ⟨(some 32), .move (.tmp 0), none⟩⟩, .ptr),
                  (⟨2, [1], false, ⟨(some 33), .nilCheck (.tmp 32), none⟩⟩, .ptr),
                  (⟨3, [2, 1], false, ⟨(some 34), .fieldAddr 0 (.tmp 33), none⟩⟩, .ptr),
                  (⟨4, [3, 2, 1], false, ⟨(some 35), .load false 1 (.tmp 34), none⟩⟩, .any),
                  (⟨5, [], false, ⟨(some 36), .move (.tmp 4), none⟩⟩, (.int .i64)),
                  (⟨6, [4, 5, 3, 2, 1], false, ⟨(some 37), .idxSlice 1 (.tmp 35) (.tmp 36), none⟩⟩, .ptr),
                  (⟨7, [6, 4, 5, 3, 2, 1], false, ⟨(some 38), .load false 1 (.tmp 37), none⟩⟩, (.int .i64)),
                  (⟨8, [], false, ⟨(some 39), .load true 32 (.tmp 5), none⟩⟩, .any),
                  (⟨9, [7, 8, 6, 4, 5, 3, 2, 1], false, ⟨(some 40), .build [(.int .i64 0), (.int .u8 0), (.int .u8 0), (.int .u8 0), (.int .u8 0), (.int .u8 0), (.int .u8 0), (.int .u8 0), (.int .u8 0), (.int .u8 0), (.int .u8 0), (.int .u8 0), (.int .u8 0), (.int .u8 0), (.int .u8 0), (.int .u8 0), (.int .u8 0), (.int .u8 0), (.int .u8 0), (.int .u8 0), (.int .u8 0), (.int .u8 0), (.int .u8 0), (.int .u8 0), (.int .u8 0), (.int .u8 0), (.int .u8 0), (.int .u8 0), (.int .u8 0), (.int .u8 0), (.int .u8 0), (.int .u8 0), (.int .u8 0)] [(0, 1, (.tmp 38)), (1, 32, (.tmp 39))], none⟩⟩, .any),
                  (⟨10, [9, 7, 8, 6, 4, 5, 3, 2, 1], false, ⟨(some 41), .buildSlice 1 33 [(.int .i64 0), (.int .u8 0), (.int .u8 0), (.int .u8 0), (.int .u8 0), (.int .u8 0), (.int .u8 0), (.int .u8 0), (.int .u8 0), (.int .u8 0), (.int .u8 0), (.int .u8 0), (.int .u8 0), (.int .u8 0), (.int .u8 0), (.int .u8 0), (.int .u8 0), (.int .u8 0), (.int .u8 0), (.int .u8 0), (.int .u8 0), (.int .u8 0), (.int .u8 0), (.int .u8 0), (.int .u8 0), (.int .u8 0), (.int .u8 0), (.int .u8 0), (.int .u8 0), (.int .u8 0), (.int .u8 0), (.int .u8 0), (.int .u8 0)] [(0, 33, (.tmp 40))], none⟩⟩, .any),
                  (⟨11, [0, 10, 9, 7, 8, 6, 4, 5, 3, 2, 1], true, ⟨(some 42), .append 40 33 (.tmp 31) (.tmp 41), none⟩⟩, .any),
                  (⟨12, [11, 0, 1, 2, 3, 4, 5, 6, 7, 8, 9, 10], true, ⟨(some 3), .move (.tmp 42), none⟩⟩, .any)])
                (.skip)) <|
        .reg [(⟨(some 15), .move (.tmp 4), none⟩, (.int .i64)),
          (⟨(some 16), .bin .add (.tmp 15) (.const (.int .i64 1)), none⟩, (.int .i64)),
          (⟨(some 4), .move (.tmp 16), none⟩, (.int .i64))]) <|
  .seq (.reg [(⟨(some 43), .move (.tmp 3), none⟩, .any),
      (⟨(some 2), .move (.tmp 43), none⟩, .any)]) <|
  .ret
def f_wicketref16_Buffer_Images_L23 (n : Nat) (u0 : Option Addr) (v0 : Value) (v1 : Int) (h2 : Heap) : Option (((Value × Int × Unit) × Heap) ⊕ ((Value × Unit) × Heap)) :=
  (u0).bind fun q3 =>
  (ldT .any h2 (some (fa q3 0))).bind fun x4 =>
  (lenB x4).bind fun n5 =>
  bif (decide (v1 < (n5 : Int))) then
    ((((u0).bind fun q6 =>
      (ldT .any h2 (some (fa q6 0))).bind fun x7 =>
      (ixB 1 x7 v1).bind fun q8 =>
      (ldT (.int .i64) h2 (some q8)).bind fun x9 =>
      (f_wicketref16_Buffer_Read n u0 x9 h2).bind fun p10 =>
      bnd ((Heap.new p10.2 (.cells (List.replicate 32 (.int .u8 0)) false 0))) fun h11 =>
      (stB 32 p10.1.1 h11 (some (nwA p10.2))).bind fun h12 =>
      bif p10.1.2.1 then
        ((u0).bind fun q13 =>
        (ldT .any h12 (some (fa q13 0))).bind fun x14 =>
        (ixB 1 x14 v1).bind fun q15 =>
        (ldT (.int .i64) h12 (some q15)).bind fun x16 =>
        (ldA 32 h12 (some (nwA p10.2))).bind fun cs17 =>
        (fillL [(.int .i64 0), (.int .u8 0), (.int .u8 0), (.int .u8 0), (.int .u8 0), (.int .u8 0), (.int .u8 0), (.int .u8 0), (.int .u8 0), (.int .u8 0), (.int .u8 0), (.int .u8 0), (.int .u8 0), (.int .u8 0), (.int .u8 0), (.int .u8 0), (.int .u8 0), (.int .u8 0), (.int .u8 0), (.int .u8 0), (.int .u8 0), (.int .u8 0), (.int .u8 0), (.int .u8 0), (.int .u8 0), (.int .u8 0), (.int .u8 0), (.int .u8 0), (.int .u8 0), (.int .u8 0), (.int .u8 0), (.int .u8 0), (.int .u8 0)] [(0, 1, (.int .i64 x16)), (1, 32, (.agg ⟨cs17⟩))]).bind fun cs18 =>
        (fillL [(.int .i64 0), (.int .u8 0), (.int .u8 0), (.int .u8 0), (.int .u8 0), (.int .u8 0), (.int .u8 0), (.int .u8 0), (.int .u8 0), (.int .u8 0), (.int .u8 0), (.int .u8 0), (.int .u8 0), (.int .u8 0), (.int .u8 0), (.int .u8 0), (.int .u8 0), (.int .u8 0), (.int .u8 0), (.int .u8 0), (.int .u8 0), (.int .u8 0), (.int .u8 0), (.int .u8 0), (.int .u8 0), (.int .u8 0), (.int .u8 0), (.int .u8 0), (.int .u8 0), (.int .u8 0), (.int .u8 0), (.int .u8 0), (.int .u8 0)] [(0, 33, (.agg ⟨cs18⟩))]).bind fun cs19 =>
        bnd ((Heap.new h12 (.cells cs19 false 33))) fun h20 =>
        (appendK h20 40 33 v0 (.slice (some ⟨Heap.next h12, 0, some 0⟩) 1 1)).bind fun p21 =>
        some ((p21.1, ()), p21.2))
      else
        (some ((v0, ()), h12))) : Option ((Value × Unit) × Heap)).bind fun a22 =>
    some (.inl ((a22.1.1, ((IntKind.i64.wrap (v1 + 1)), ())), a22.2)))
  else
    (Option.map Sum.inr (bif !isTuple v0 then
      (some ((v0, ()), h2))
    else
      (none)))
noncomputable def sf_wicketref16_Buffer_Images (n : Nat) : Sf := sfOf [(k_wicketref16_Buffer_Read, s_wicketref16_Buffer_Read n)]
noncomputable def it_wicketref16_Buffer_Images (n : Nat) : It := itOf []
def f_wicketref16_Buffer_Images (n : Nat) (u0 : Option Addr) (h : Heap) : Option ((Value × Unit) × Heap) :=
  loopT (fun a => f_wicketref16_Buffer_Images_L23 n u0 a.1.1 a.1.2.1 a.2) n (((.slice none 0 0), (0, ())), h)
def rs_wicketref16_Buffer_Images : Rs := [(.tmp 2, .any)]
def ps_wicketref16_Buffer_Images : List Ty := [.ptr]
theorem e_wicketref16_Buffer_Images (n : Nat) (u0 : Option Addr) (h : Heap) : f_wicketref16_Buffer_Images n u0 h = fB (sf_wicketref16_Buffer_Images n) (it_wicketref16_Buffer_Images n) n c2_wicketref16_Buffer_Images rs_wicketref16_Buffer_Images ps_wicketref16_Buffer_Images (u0, ()) h := by kernel_rfl
noncomputable def s_wicketref16_Buffer_Images (n : Nat) : Sf1 := mkSf ps_wicketref16_Buffer_Images rs_wicketref16_Buffer_Images fun a h => f_wicketref16_Buffer_Images n a.1 h

/- slices.Contains[[]int,int] -/
def c2_slices_Contains_int_int : C2 :=
  .seq (.reg [(⟨(some 4), .move (.const (.bool false)), none⟩, .bool)]) <|
  .seq (.reg [(⟨(some 5), .move (.tmp 0), none⟩, .any),
      (⟨(some 6), .move (.tmp 1), none⟩, (.int .i64)),
      (⟨(some 7), .call k_slices_Index_int_int [(.tmp 5), (.tmp 6)], none⟩, (.int .i64)),
      (⟨(some 8), .bin .geq (.tmp 7) (.const (.int .i64 0)), none⟩, .bool),
      (⟨(some 4), .move (.tmp 8), none⟩, .bool)]) <|
  .ret
noncomputable def sf_slices_Contains_int_int (n : Nat) : Sf := sfOf [(k_slices_Index_int_int, s_slices_Index_int_int n)]
noncomputable def it_slices_Contains_int_int (n : Nat) : It := itOf []
def f_slices_Contains_int_int (n : Nat) (u0 : Value) (u1 : Int) (h : Heap) : Option ((Bool × Unit) × Heap) :=
  (f_slices_Index_int_int n u0 u1 h).bind fun p0 =>
  some (((decide (0 ≤ p0.1.1)), ()), p0.2)
def rs_slices_Contains_int_int : Rs := [(.tmp 4, .bool)]
def ps_slices_Contains_int_int : List Ty := [.any, (.int .i64)]
theorem e_slices_Contains_int_int (n : Nat) (u0 : Value) (u1 : Int) (h : Heap) : f_slices_Contains_int_int n u0 u1 h = fB (sf_slices_Contains_int_int n) (it_slices_Contains_int_int n) n c2_slices_Contains_int_int rs_slices_Contains_int_int ps_slices_Contains_int_int (u0, (u1, ())) h := by kernel_rfl
noncomputable def s_slices_Contains_int_int (n : Nat) : Sf1 := mkSf ps_slices_Contains_int_int rs_slices_Contains_int_int fun a h => f_slices_Contains_int_int n a.1 a.2.1 h

/- (*wicket/wicketlaw16.pair).told -/
def c2_wicketlaw16_pair_told : C2 :=
  .seq (.reg [(⟨(some 4), .move (.const (.bool false)), none⟩, .bool)]) <|
  .seq (.seq (.reg [(⟨(some 5), .move (.const (.int .i64 0)), none⟩, (.int .i64))]) <|
    .block 0 <|
      .loop [(5, (.int .i64))] <|
        .seq (.seq (.reg [(⟨(some 9), .move (.tmp 5), none⟩, (.int .i64)),
              (⟨(some 10), .bin .lss (.tmp 9) (.const (.int .i64 2)), none⟩, .bool)]) <|
          .cond (.tmp 10)
            (.skip)
            (.exit 0)) <|
        .seq (.block 1 <|
            .seq (.regd [(⟨0, [], false, ⟨(some 13), .move (.tmp 0), none⟩⟩, .ptr),
                (⟨1, [], false, ⟨(some 14), .move (.tmp 1), none⟩⟩, (.int .i64)),
                (⟨2, [0], false, ⟨(some 15), .nilCheck (.tmp 13), none⟩⟩, .ptr),
                (⟨3, [2, 0], false, ⟨(some 16), .fieldAddr 0 (.tmp 15), none⟩⟩, .ptr),
                (⟨4, [3, 1, 2, 0], false, ⟨(some 17), .idxArr 2 1 (.tmp 16) (.tmp 14), none⟩⟩, .ptr),
                (⟨5, [4, 3, 1, 2, 0], false, ⟨(some 18), .load false 1 (.tmp 17), none⟩⟩, .ptr),
                (⟨7, [], false, ⟨(some 20), .move (.tmp 0), none⟩⟩, .ptr),
                (⟨8, [], false, ⟨(some 21), .move (.tmp 1), none⟩⟩, (.int .i64)),
                (⟨9, [7], false, ⟨(some 22), .nilCheck (.tmp 20), none⟩⟩, .ptr),
                (⟨10, [9, 7], false, ⟨(some 23), .fieldAddr 0 (.tmp 22), none⟩⟩, .ptr),
                (⟨11, [10, 8, 9, 7], false, ⟨(some 24), .idxArr 2 1 (.tmp 23) (.tmp 21), none⟩⟩, .ptr),
                (⟨12, [11, 10, 8, 9, 7], false, ⟨(some 25), .load false 1 (.tmp 24), none⟩⟩, .ptr),
                (⟨6, [5, 4, 3, 1, 2, 0], true, ⟨(some 19), .call k_buffer_Buffer_Images [(.tmp 18)], none⟩⟩, .any),
                (⟨13, [12, 6, 11, 10, 8, 9, 7, 5, 4, 3, 1, 2, 0], true, ⟨(some 26), .call k_buffer_Buffer_Form [(.tmp 25)], none⟩⟩, .any),
                (⟨14, [6, 13, 0, 1, 2, 3, 4, 5, 12, 11, 10, 8, 9, 7], false, ⟨(some 6), .move (.tmp 19), none⟩⟩, .any),
                (⟨15, [13, 14, 0, 1, 2, 3, 4, 5, 6, 7, 8, 9, 10, 11, 12], false, ⟨(some 7), .move (.tmp 26), none⟩⟩, .any)]) <|
            .seq (.reg [(⟨(some 27), .move (.tmp 0), none⟩, .ptr),
                (⟨(some 28), .move (.tmp 1), none⟩, (.int .i64)),
                (⟨(some 29), .nilCheck (.tmp 27), none⟩, .ptr),
                (⟨(some 30), .fieldAddr 2 (.tmp 29), none⟩, .ptr),
                (⟨(some 31), .idxArr 2 1 (.tmp 30) (.tmp 28), none⟩, .ptr),
                (⟨(some 32), .load false 1 (.tmp 31), none⟩, .ptr),
                (⟨(some 33), .call k_wicketref16_Buffer_Images [(.tmp 32)], none⟩, .any),
                (⟨(some 8), .move (.tmp 33), none⟩, .any)]) <|
            .seq (.seq (.cutn [(63, .bool)] <|
                  .reg [(⟨(some 34), .move (.tmp 6), none⟩, .any),
                    (⟨(some 35), .move (.tmp 8), none⟩, .any),
                    (⟨(some 36), .call k_wicketref16_Same [(.tmp 34), (.tmp 35)], none⟩, .bool),
                    (⟨(some 37), .un .not (.tmp 36), none⟩, .bool),
                    (⟨(some 38), .move (.tmp 37), none⟩, .bool),
                    (⟨(some 39), .move (.tmp 7), some (38, false)⟩, .any),
                    (⟨(some 40), .move (.tmp 0), some (38, false)⟩, .ptr),
                    (⟨(some 41), .move (.tmp 1), some (38, false)⟩, (.int .i64)),
                    (⟨(some 42), .nilCheck (.tmp 40), some (38, false)⟩, .ptr),
                    (⟨(some 43), .fieldAddr 2 (.tmp 42), some (38, false)⟩, .ptr),
                    (⟨(some 44), .idxArr 2 1 (.tmp 43) (.tmp 41), some (38, false)⟩, .ptr),
                    (⟨(some 45), .load false 1 (.tmp 44), some (38, false)⟩, .ptr),
                    (⟨(some 46), .nilCheck (.tmp 45), some (38, false)⟩, .ptr),
                    (⟨(some 47), .fieldAddr 0 (.tmp 46), some (38, false)⟩, .ptr),
                    (⟨(some 48), .load false 1 (.tmp 47), some (38, false)⟩, .any),
                    (⟨(some 49), .call k_wicketref05_Same [(.tmp 39), (.tmp 48)], some (38, false)⟩, .bool),
                    (⟨(some 50), .un .not (.tmp 49), some (38, false)⟩, .bool),
                    (⟨(some 51), .pick (.tmp 38) (.const (.bool true)) (.tmp 50), none⟩, .bool),
                    (⟨(some 52), .move (.tmp 51), none⟩, .bool),
                    (⟨(some 53), .move (.tmp 0), some (52, false)⟩, .ptr),
                    (⟨(some 54), .move (.tmp 1), some (52, false)⟩, (.int .i64)),
                    (⟨(some 55), .nilCheck (.tmp 53), some (52, false)⟩, .ptr),
                    (⟨(some 56), .fieldAddr 0 (.tmp 55), some (52, false)⟩, .ptr),
                    (⟨(some 57), .idxArr 2 1 (.tmp 56) (.tmp 54), some (52, false)⟩, .ptr),
                    (⟨(some 58), .load false 1 (.tmp 57), some (52, false)⟩, .ptr),
                    (⟨(some 59), .call k_buffer_Buffer_Len [(.tmp 58)], some (52, false)⟩, (.int .i64)),
                    (⟨(some 60), .move (.tmp 8), some (52, false)⟩, .any),
                    (⟨(some 61), .lenS (.tmp 60), some (52, false)⟩, (.int .i64)),
                    (⟨(some 62), .bin .neq (.tmp 59) (.tmp 61), some (52, false)⟩, .bool),
                    (⟨(some 63), .pick (.tmp 52) (.const (.bool true)) (.tmp 62), none⟩, .bool)]) <|
              .cond (.tmp 63)
                (.seq (.reg [(⟨(some 4), .move (.const (.bool false)), none⟩, .bool)]) <|
                .ret)
                (.skip)) <|
            .regd [(⟨0, [], false, ⟨(some 64), .move (.tmp 0), none⟩⟩, .ptr),
              (⟨1, [], false, ⟨(some 65), .move (.tmp 0), none⟩⟩, .ptr),
              (⟨2, [], false, ⟨(some 66), .move (.tmp 0), none⟩⟩, .ptr),
              (⟨3, [], false, ⟨(some 67), .move (.tmp 0), none⟩⟩, .ptr),
              (⟨4, [3], false, ⟨(some 68), .nilCheck (.tmp 67), none⟩⟩, .ptr),
              (⟨5, [4, 3], false, ⟨(some 69), .fieldAddr 4 (.tmp 68), none⟩⟩, .ptr),
              (⟨6, [5, 4, 3], false, ⟨(some 70), .load false 1 (.tmp 69), none⟩⟩, .any),
              (⟨7, [], false, ⟨(some 71), .move (.tmp 6), none⟩⟩, .any),
              (⟨8, [7], false, ⟨(some 72), .buildSlice 1 1 [(.slice none 0 0)] [(0, 1, (.tmp 71))], none⟩⟩, .any),
              (⟨10, [], false, ⟨(some 74), .move (.tmp 0), none⟩⟩, .ptr),
              (⟨11, [10], false, ⟨(some 75), .nilCheck (.tmp 74), none⟩⟩, .ptr),
              (⟨12, [11, 10], false, ⟨(some 76), .fieldAddr 5 (.tmp 75), none⟩⟩, .ptr),
              (⟨13, [12, 11, 10], false, ⟨(some 77), .load false 1 (.tmp 76), none⟩⟩, .any),
              (⟨14, [], false, ⟨(some 78), .move (.tmp 8), none⟩⟩, .any),
              (⟨15, [14], false, ⟨(some 79), .buildSlice 1 1 [(.slice none 0 0)] [(0, 1, (.tmp 78))], none⟩⟩, .any),
              (⟨17, [], false, ⟨(some 81), .move (.tmp 0), none⟩⟩, .ptr),
              (⟨18, [17], false, ⟨(some 82), .nilCheck (.tmp 81), none⟩⟩, .ptr),
              (⟨19, [18, 17], false, ⟨(some 83), .fieldAddr 6 (.tmp 82), none⟩⟩, .ptr),
              (⟨20, [19, 18, 17], false, ⟨(some 84), .load false 1 (.tmp 83), none⟩⟩, .any),
              (⟨21, [], false, ⟨(some 85), .move (.tmp 7), none⟩⟩, .any),
              (⟨22, [21], false, ⟨(some 86), .buildSlice 1 1 [(.slice none 0 0)] [(0, 1, (.tmp 85))], none⟩⟩, .any),
              (⟨9, [6, 8, 5, 4, 3, 7], true, ⟨(some 73), .append 24 1 (.tmp 70) (.tmp 72), none⟩⟩, .any),
              (⟨16, [13, 15, 9, 12, 11, 10, 14, 6, 8, 5, 4, 3, 7], true, ⟨(some 80), .append 24 1 (.tmp 77) (.tmp 79), none⟩⟩, .any),
              (⟨23, [20, 22, 16, 19, 18, 17, 21, 13, 15, 9, 12, 11, 10, 14, 6, 8, 5, 4, 3, 7], true, ⟨(some 87), .append 24 1 (.tmp 84) (.tmp 86), none⟩⟩, .any),
              (⟨24, [0, 3, 4, 5, 6, 7, 8, 9, 13, 16, 20, 23, 12, 11, 10, 15, 14, 19, 18, 17, 22, 21], false, ⟨(some 88), .nilCheck (.tmp 64), none⟩⟩, .ptr),
              (⟨25, [24, 0, 3, 4, 5, 6, 7, 8, 9, 13, 16, 20, 23, 12, 11, 10, 15, 14, 19, 18, 17, 22, 21], false, ⟨(some 89), .fieldAddr 4 (.tmp 88), none⟩⟩, .ptr),
              (⟨26, [25, 9, 23, 0, 3, 4, 5, 6, 7, 8, 13, 16, 20, 24, 12, 11, 10, 15, 14, 19, 18, 17, 22, 21], true, ⟨none, .store 1 (.tmp 89) (.tmp 73), none⟩⟩, .any),
              (⟨27, [1, 0, 3, 4, 5, 6, 7, 8, 9, 10, 11, 12, 13, 14, 15, 16, 20, 23, 24, 25, 26, 19, 18, 17, 22, 21], false, ⟨(some 90), .nilCheck (.tmp 65), none⟩⟩, .ptr),
              (⟨28, [27, 0, 1, 3, 4, 5, 6, 7, 8, 9, 10, 11, 12, 13, 14, 15, 16, 20, 23, 24, 25, 26, 19, 18, 17, 22, 21], false, ⟨(some 91), .fieldAddr 5 (.tmp 90), none⟩⟩, .ptr),
              (⟨29, [28, 16, 26, 0, 1, 3, 4, 5, 6, 7, 8, 9, 10, 11, 12, 13, 14, 15, 20, 23, 24, 25, 27, 19, 18, 17, 22, 21], true, ⟨none, .store 1 (.tmp 91) (.tmp 80), none⟩⟩, .any),
              (⟨30, [2, 0, 1, 3, 4, 5, 6, 7, 8, 9, 10, 11, 12, 13, 14, 15, 16, 17, 18, 19, 20, 21, 22, 23, 24, 25, 26, 27, 28, 29], false, ⟨(some 92), .nilCheck (.tmp 66), none⟩⟩, .ptr),
              (⟨31, [30, 0, 1, 2, 3, 4, 5, 6, 7, 8, 9, 10, 11, 12, 13, 14, 15, 16, 17, 18, 19, 20, 21, 22, 23, 24, 25, 26, 27, 28, 29], false, ⟨(some 93), .fieldAddr 6 (.tmp 92), none⟩⟩, .ptr),
              (⟨32, [31, 23, 29, 0, 1, 2, 3, 4, 5, 6, 7, 8, 9, 10, 11, 12, 13, 14, 15, 16, 17, 18, 19, 20, 21, 22, 24, 25, 26, 27, 28, 30], true, ⟨none, .store 1 (.tmp 93) (.tmp 87), none⟩⟩, .any)]) <|
        .reg [(⟨(some 11), .move (.tmp 5), none⟩, (.int .i64)),
          (⟨(some 12), .bin .add (.tmp 11) (.const (.int .i64 1)), none⟩, (.int .i64)),
          (⟨(some 5), .move (.tmp 12), none⟩, (.int .i64))]) <|
  .seq (.reg [(⟨(some 4), .move (.const (.bool true)), none⟩, .bool)]) <|
  .ret
def f_wicketlaw16_pair_told_L51 (n : Nat) (u1 : Int) (u0 : Option Addr) (v0 : Int) (h1 : Heap) : Option (((Int × Unit) × Heap) ⊕ ((Bool × Unit) × Heap)) :=
  bif (decide (v0 < 2)) then
    ((u0).bind fun q2 =>
    (ixA 2 1 (some (fa q2 0)) u1).bind fun q3 =>
    (ldT .ptr h1 (some q3)).bind fun x4 =>
    (u0).bind fun q5 =>
    (ixA 2 1 (some (fa q5 0)) u1).bind fun q6 =>
    (ldT .ptr h1 (some q6)).bind fun x7 =>
    (f_buffer_Buffer_Images n x4 (hid h1 [] ((Addr.block q6) :: []))).bind fun p8 =>
    bnd (Heap.putBack p8.2 h1 ([] ++ ((Addr.block q6) :: []))) fun h9 =>
    (f_buffer_Buffer_Form n x7 h9).bind fun p10 =>
    (u0).bind fun q11 =>
    (ixA 2 1 (some (fa q11 2)) u1).bind fun q12 =>
    (ldT .ptr p10.2 (some q12)).bind fun x13 =>
    (f_wicketref16_Buffer_Images n x13 p10.2).bind fun p14 =>
    (((f_wicketref16_Same n p8.1.1 p14.1.1 p14.2).bind fun p15 =>
      bif (!p15.1.1) then
        (some ((true, ()), p15.2))
      else
        ((u0).bind fun q16 =>
        (ixA 2 1 (some (fa q16 2)) u1).bind fun q17 =>
        (ldT .ptr p15.2 (some q17)).bind fun x18 =>
        (x18).bind fun q19 =>
        (ldT .any p15.2 (some (fa q19 0))).bind fun x20 =>
        (f_wicketref05_Same n p10.1.1 x20 p15.2).bind fun p21 =>
        bif (!p21.1.1) then
          (some ((true, ()), p21.2))
        else
          ((u0).bind fun q22 =>
          (ixA 2 1 (some (fa q22 0)) u1).bind fun q23 =>
          (ldT .ptr p21.2 (some q23)).bind fun x24 =>
          (f_buffer_Buffer_Len n x24 p21.2).bind fun p25 =>
          (lenB p14.1.1).bind fun n26 =>
          some (((!decide (p25.1.1 = (n26 : Int))), ()), p25.2)))) : Option ((Bool × Unit) × Heap)).bind fun a27 =>
    bif a27.1.1 then
      (some (.inr ((false, ()), a27.2)))
    else
      ((u0).bind fun q28 =>
      (ldT .any a27.2 (some (fa q28 4))).bind fun x29 =>
      (fillL [(.slice none 0 0)] [(0, 1, p8.1.1)]).bind fun cs30 =>
      bnd ((Heap.new a27.2 (.cells cs30 false 1))) fun h31 =>
      (u0).bind fun q32 =>
      (ldT .any (Heap.dropAll h31 ((Heap.next a27.2) :: [])) (some (fa q32 5))).bind fun x33 =>
      (fillL [(.slice none 0 0)] [(0, 1, p14.1.1)]).bind fun cs34 =>
      bnd ((Heap.new h31 (.cells cs34 false 1))) fun h35 =>
      (u0).bind fun q36 =>
      (ldT .any (Heap.dropAll h35 ((Heap.next h31) :: ((Heap.next a27.2) :: []))) (some (fa q36 6))).bind fun x37 =>
      (fillL [(.slice none 0 0)] [(0, 1, p10.1.1)]).bind fun cs38 =>
      bnd ((Heap.new h35 (.cells cs38 false 1))) fun h39 =>
      (appendK (hid h39 ((Heap.next h35) :: ((Heap.next h31) :: [])) ((Addr.block (fa q36 6)) :: ((Addr.block (fa q32 5)) :: []))) 24 1 x29 (.slice (some ⟨Heap.next a27.2, 0, some 0⟩) 1 1)).bind fun p40 =>
      bnd (Heap.putBack p40.2 h39 (((Heap.next h35) :: ((Heap.next h31) :: [])) ++ ((Addr.block (fa q36 6)) :: ((Addr.block (fa q32 5)) :: [])))) fun h41 =>
      (appendK (hid h41 ((Heap.next h35) :: []) ((Addr.block (fa q36 6)) :: [])) 24 1 x33 (.slice (some ⟨Heap.next h31, 0, some 0⟩) 1 1)).bind fun p42 =>
      bnd (Heap.putBack p42.2 h41 (((Heap.next h35) :: []) ++ ((Addr.block (fa q36 6)) :: []))) fun h43 =>
      (appendK h43 24 1 x37 (.slice (some ⟨Heap.next h35, 0, some 0⟩) 1 1)).bind fun p44 =>
      (u0).bind fun q45 =>
      (stB 1 p40.1 p44.2 (some (fa q45 4))).bind fun h46 =>
      (u0).bind fun q47 =>
      (stB 1 p42.1 h46 (some (fa q47 5))).bind fun h48 =>
      (u0).bind fun q49 =>
      (stB 1 p44.1 h48 (some (fa q49 6))).bind fun h50 =>
      some (.inl (((IntKind.i64.wrap (v0 + 1)), ()), h50))))
  else
    (some (.inr ((true, ()), h1)))
noncomputable def sf_wicketlaw16_pair_told (n : Nat) : Sf := sfOf [(k_buffer_Buffer_Images, s_buffer_Buffer_Images n), (k_buffer_Buffer_Form, s_buffer_Buffer_Form n), (k_wicketref16_Buffer_Images, s_wicketref16_Buffer_Images n), (k_wicketref16_Same, s_wicketref16_Same n), (k_wicketref05_Same, s_wicketref05_Same n), (k_buffer_Buffer_Len, s_buffer_Buffer_Len n)]
noncomputable def it_wicketlaw16_pair_told (n : Nat) : It := itOf []
def f_wicketlaw16_pair_told (n : Nat) (u0 : Option Addr) (u1 : Int) (h : Heap) : Option ((Bool × Unit) × Heap) :=
  loopT (fun a => f_wicketlaw16_pair_told_L51 n u1 u0 a.1.1 a.2) n ((0, ()), h)
def rs_wicketlaw16_pair_told : Rs := [(.tmp 4, .bool)]
def ps_wicketlaw16_pair_told : List Ty := [.ptr, (.int .i64)]
theorem e_wicketlaw16_pair_told (n : Nat) (u0 : Option Addr) (u1 : Int) (h : Heap) : f_wicketlaw16_pair_told n u0 u1 h = fB (sf_wicketlaw16_pair_told n) (it_wicketlaw16_pair_told n) n c2_wicketlaw16_pair_told rs_wicketlaw16_pair_told ps_wicketlaw16_pair_told (u0, (u1, ())) h := by kernel_rfl
noncomputable def s_wicketlaw16_pair_told (n : Nat) : Sf1 := mkSf ps_wicketlaw16_pair_told rs_wicketlaw16_pair_told fun a h => f_wicketlaw16_pair_told n a.1 a.2.1 h

/- wicket/blocks.Has -/
def c2_blocks_Has : C2 :=
  .seq (.reg [(⟨(some 4), .move (.const (.bool false)), none⟩, .bool)]) <|
  .seq (.reg [(⟨(some 5), .move (.tmp 0), none⟩, .any),
      (⟨(some 6), .move (.tmp 1), none⟩, (.int .i64)),
      (⟨(some 7), .call k_slices_Contains_int_int [(.tmp 5), (.tmp 6)], none⟩, .bool),
      (⟨(some 4), .move (.tmp 7), none⟩, .bool)]) <|
  .ret
noncomputable def sf_blocks_Has (n : Nat) : Sf := sfOf [(k_slices_Contains_int_int, s_slices_Contains_int_int n)]
noncomputable def it_blocks_Has (n : Nat) : It := itOf []
def f_blocks_Has (n : Nat) (u0 : Value) (u1 : Int) (h : Heap) : Option ((Bool × Unit) × Heap) :=
  (f_slices_Contains_int_int n u0 u1 h).bind fun p0 =>
  some ((p0.1.1, ()), p0.2)
def rs_blocks_Has : Rs := [(.tmp 4, .bool)]
def ps_blocks_Has : List Ty := [.any, (.int .i64)]
theorem e_blocks_Has (n : Nat) (u0 : Value) (u1 : Int) (h : Heap) : f_blocks_Has n u0 u1 h = fB (sf_blocks_Has n) (it_blocks_Has n) n c2_blocks_Has rs_blocks_Has ps_blocks_Has (u0, (u1, ())) h := by kernel_rfl
noncomputable def s_blocks_Has (n : Nat) : Sf1 := mkSf ps_blocks_Has rs_blocks_Has fun a h => f_blocks_Has n a.1 a.2.1 h

/- (*wicket/buffer.Buffer).refused -/
def c2_buffer_Buffer_refused : C2 :=
  .seq (.reg [(⟨(some 4), .move (.const (.int .i64 0)), none⟩, (.int .i64))]) <|
  .seq (.block 0 <|
      .seq (.reg [(⟨(some 6), .move (.tmp 0), none⟩, .ptr),
          (⟨(some 7), .eqv false .ptr (.tmp 6) (.const (.pointer none)), none⟩, .bool),
          (⟨(some 5), .move (.tmp 7), none⟩, .bool)]) <|
      .cond (.tmp 5)
        (.seq (.reg [(⟨(some 4), .move (.const (.int .i64 1)), none⟩, (.int .i64))]) <|
        .ret)
        (.seq (.reg [(⟨(some 9), .move (.tmp 0), none⟩, .ptr),
            (⟨(some 10), .nilCheck (.tmp 9), none⟩, .ptr),
            (⟨(some 11), .fieldAddr 0 (.tmp 10), none⟩, .ptr),
            (⟨(some 12), .load false 1 (.tmp 11), none⟩, .any),
            (⟨(some 13), .move (.tmp 1), none⟩, (.int .i64)),
            (⟨(some 14), .call k_blocks_Has [(.tmp 12), (.tmp 13)], none⟩, .bool),
            (⟨(some 15), .un .not (.tmp 14), none⟩, .bool),
            (⟨(some 8), .move (.tmp 15), none⟩, .bool)]) <|
        .cond (.tmp 8)
          (.seq (.reg [(⟨(some 4), .move (.const (.int .i64 160)), none⟩, (.int .i64))]) <|
          .ret)
          (.skip))) <|
  .seq (.reg [(⟨(some 4), .move (.const (.int .i64 0)), none⟩, (.int .i64))]) <|
  .ret
noncomputable def sf_buffer_Buffer_refused (n : Nat) : Sf := sfOf [(k_blocks_Has, s_blocks_Has n)]
noncomputable def it_buffer_Buffer_refused (n : Nat) : It := itOf []
def f_buffer_Buffer_refused (n : Nat) (u0 : Option Addr) (u1 : Int) (h : Heap) : Option ((Int × Unit) × Heap) :=
  bif (Option.isNone u0) then
    (some ((1, ()), h))
  else
    ((u0).bind fun q0 =>
    (ldT .any h (some (fa q0 0))).bind fun x1 =>
    (f_blocks_Has n x1 u1 h).bind fun p2 =>
    bif (!p2.1.1) then
      (some ((160, ()), p2.2))
    else
      (some ((0, ()), p2.2)))
def rs_buffer_Buffer_refused : Rs := [(.tmp 4, (.int .i64))]
def ps_buffer_Buffer_refused : List Ty := [.ptr, (.int .i64)]
theorem e_buffer_Buffer_refused (n : Nat) (u0 : Option Addr) (u1 : Int) (h : Heap) : f_buffer_Buffer_refused n u0 u1 h = fB (sf_buffer_Buffer_refused n) (it_buffer_Buffer_refused n) n c2_buffer_Buffer_refused rs_buffer_Buffer_refused ps_buffer_Buffer_refused (u0, (u1, ())) h := by kernel_rfl
noncomputable def s_buffer_Buffer_refused (n : Nat) : Sf1 := mkSf ps_buffer_Buffer_refused rs_buffer_Buffer_refused fun a h => f_buffer_Buffer_refused n a.1 a.2.1 h

/- (*wicket/buffer.Buffer).Write -/
def c2_buffer_Buffer_Write : C2 :=
  .seq (.reg [(⟨(some 5), .box (.tmp 2), none⟩, .ptr),
      (⟨(some 6), .move (.const (.int .i64 0)), none⟩, (.int .i64))]) <|
  .seq (.seq (.reg [(⟨(some 8), .move (.tmp 0), none⟩, .ptr),
        (⟨(some 9), .move (.tmp 1), none⟩, (.int .i64)),
        (⟨(some 10), .call k_buffer_Buffer_refused [(.tmp 8), (.tmp 9)], none⟩, (.int .i64)),
        (⟨(some 7), .move (.tmp 10), none⟩, (.int .i64))]) <|
    .seq (.reg [(⟨(some 11), .move (.tmp 7), none⟩, (.int .i64)),
        (⟨(some 12), .bin .neq (.tmp 11) (.const (.int .i64 0)), none⟩, .bool)]) <|
    .cond (.tmp 12)
      (.seq (.reg [(⟨(some 13), .move (.tmp 7), none⟩, (.int .i64)),
          (⟨(some 6), .move (.tmp 13), none⟩, (.int .i64))]) <|
      .ret)
      (.skip)) <|
  .seq (.regd [(⟨0, [], false, ⟨(some 14), .move (.tmp 0), none⟩⟩, .ptr),
      (⟨1, [0], false, ⟨(some 15), .nilCheck (.tmp 14), none⟩⟩, .ptr),
      (⟨2, [1, 0], false, ⟨(some 16), .fieldAddr 1 (.tmp 15), none⟩⟩, .ptr),
      (⟨3, [2, 1, 0], false, ⟨(some 17), .load false 1 (.tmp 16), none⟩⟩, .any),
      (⟨4, [], false, ⟨(some 18), .move (.tmp 1), none⟩⟩, (.int .i64)),
      (⟨5, [], false, ⟨(some 19), .load true 32 (.tmp 5), none⟩⟩, .any),
      (⟨6, [3, 4, 5, 0, 1, 2], true, ⟨none, .mapUpdate .i64 (.tmp 17) (.tmp 18) (.tmp 19), none⟩⟩, .any)]) <|
  .seq (.reg [(⟨(some 6), .move (.const (.int .i64 0)), none⟩, (.int .i64))]) <|
  .ret
noncomputable def sf_buffer_Buffer_Write (n : Nat) : Sf := sfOf [(k_buffer_Buffer_refused, s_buffer_Buffer_refused n)]
noncomputable def it_buffer_Buffer_Write (n : Nat) : It := itOf []
def f_buffer_Buffer_Write (n : Nat) (u0 : Option Addr) (u1 : Int) (u2 : Value) (h : Heap) : Option ((Int × Unit) × Heap) :=
  bif (cellsOf u2).all isCell then
    (bnd ((Heap.new h (.cells (cellsOf u2) false 0))) fun h0 =>
    (f_buffer_Buffer_refused n u0 u1 h0).bind fun p1 =>
    bif (!decide (p1.1.1 = 0)) then
      (some ((p1.1.1, ()), p1.2))
    else
      ((u0).bind fun q2 =>
      (ldT .any p1.2 (some (fa q2 1))).bind fun x3 =>
      (ldA 32 p1.2 (some (nwA h))).bind fun cs4 =>
      (mapUpdateK p1.2 .i64 x3 (.int .i64 u1) (.agg ⟨cs4⟩)).bind fun p5 =>
      some ((0, ()), p5.2)))
  else
    (none)
def rs_buffer_Buffer_Write : Rs := [(.tmp 6, (.int .i64))]
def ps_buffer_Buffer_Write : List Ty := [.ptr, (.int .i64), .any]
theorem e_buffer_Buffer_Write (n : Nat) (u0 : Option Addr) (u1 : Int) (u2 : Value) (h : Heap) : f_buffer_Buffer_Write n u0 u1 u2 h = fB (sf_buffer_Buffer_Write n) (it_buffer_Buffer_Write n) n c2_buffer_Buffer_Write rs_buffer_Buffer_Write ps_buffer_Buffer_Write (u0, (u1, (u2, ()))) h := by kernel_rfl
noncomputable def s_buffer_Buffer_Write (n : Nat) : Sf1 := mkSf ps_buffer_Buffer_Write rs_buffer_Buffer_Write fun a h => f_buffer_Buffer_Write n a.1 a.2.1 a.2.2.1 h

/- (*wicket/buffer.Buffer).Read -/
def c2_buffer_Buffer_Read : C2 :=
  .seq (.reg [(⟨(some 4), .alloc (List.replicate 32 (.int .u8 0)), none⟩, .ptr),
      (⟨(some 5), .move (.const (.bool false)), none⟩, .bool),
      (⟨(some 6), .move (.const (.int .i64 0)), none⟩, (.int .i64))]) <|
  .seq (.seq (.reg [(⟨(some 8), .move (.tmp 0), none⟩, .ptr),
        (⟨(some 9), .move (.tmp 1), none⟩, (.int .i64)),
        (⟨(some 10), .call k_buffer_Buffer_refused [(.tmp 8), (.tmp 9)], none⟩, (.int .i64)),
        (⟨(some 7), .move (.tmp 10), none⟩, (.int .i64))]) <|
    .seq (.reg [(⟨(some 11), .move (.tmp 7), none⟩, (.int .i64)),
        (⟨(some 12), .bin .neq (.tmp 11) (.const (.int .i64 0)), none⟩, .bool)]) <|
    .cond (.tmp 12)
      (.seq (.reg [(⟨(some 13), .build (List.replicate 32 (.int .u8 0)) [], none⟩, .any),
          (⟨(some 14), .move (.tmp 7), none⟩, (.int .i64)),
          (⟨none, .store 32 (.tmp 4) (.tmp 13), none⟩, .any),
          (⟨(some 5), .move (.const (.bool false)), none⟩, .bool),
          (⟨(some 6), .move (.tmp 14), none⟩, (.int .i64))]) <|
      .ret)
      (.skip)) <|
  .seq (.reg [(⟨(some 16), .move (.tmp 0), none⟩, .ptr),
      (⟨(some 17), .nilCheck (.tmp 16), none⟩, .ptr),
      (⟨(some 18), .fieldAddr 1 (.tmp 17), none⟩, .ptr),
      (⟨(some 19), .load false 1 (.tmp 18), none⟩, .any),
      (⟨(some 20), .move (.tmp 1), none⟩, (.int .i64)),
      (⟨(some 21), .lookup .i64 (.agg ⟨(List.replicate 32 (.int .u8 0))⟩) (.tmp 19) (.tmp 20) true, none⟩, .any),
      (⟨(some 15), .move (.tmp 21), none⟩, .any),
      (⟨(some 22), .extract (.tmp 15) 0, none⟩, .any),
      (⟨(some 23), .extract (.tmp 15) 1, none⟩, .bool),
      (⟨none, .store 32 (.tmp 4) (.tmp 22), none⟩, .any),
      (⟨(some 5), .move (.tmp 23), none⟩, .bool)]) <|
  .seq (.reg [(⟨(some 24), .load true 32 (.tmp 4), none⟩, .any),
      (⟨(some 25), .move (.tmp 5), none⟩, .bool),
      (⟨none, .store 32 (.tmp 4) (.tmp 24), none⟩, .any),
      (⟨(some 5), .move (.tmp 25), none⟩, .bool),
      (⟨(some 6), .move (.const (.int .i64 0)), none⟩, (.int .i64))]) <|
  .ret
noncomputable def sf_buffer_Buffer_Read (n : Nat) : Sf := sfOf [(k_buffer_Buffer_refused, s_buffer_Buffer_refused n)]
noncomputable def it_buffer_Buffer_Read (n : Nat) : It := itOf []
def f_buffer_Buffer_Read (n : Nat) (u0 : Option Addr) (u1 : Int) (h : Heap) : Option ((Value × Bool × Int × Unit) × Heap) :=
  bnd ((Heap.new h (.cells (List.replicate 32 (.int .u8 0)) false 0))) fun h0 =>
  (f_buffer_Buffer_refused n u0 u1 h0).bind fun p1 =>
  bif (!decide (p1.1.1 = 0)) then
    ((fillL (List.replicate 32 (.int .u8 0)) []).bind fun cs2 =>
    (stB 32 (.agg ⟨cs2⟩) p1.2 (some (nwA h))).bind fun h3 =>
    (ldA 32 h3 (some (nwA h))).bind fun cs4 =>
    some (((.agg ⟨cs4⟩), (false, (p1.1.1, ()))), h3))
  else
    ((u0).bind fun q5 =>
    (ldT .any p1.2 (some (fa q5 1))).bind fun x6 =>
    (lkT .any p1.2 .i64 (.agg ⟨(List.replicate 32 (.int .u8 0))⟩) x6 u1).bind fun p7 =>
    (stB 32 p7.1 p1.2 (some (nwA h))).bind fun h8 =>
    (ldA 32 h8 (some (nwA h))).bind fun cs9 =>
    (stB 32 (.agg ⟨cs9⟩) h8 (some (nwA h))).bind fun h10 =>
    (ldA 32 h10 (some (nwA h))).bind fun cs11 =>
    some (((.agg ⟨cs11⟩), (p7.2, (0, ()))), h10))
def rs_buffer_Buffer_Read : Rs := [(.cell true 32 4, .any), (.tmp 5, .bool), (.tmp 6, (.int .i64))]
def ps_buffer_Buffer_Read : List Ty := [.ptr, (.int .i64)]
theorem e_buffer_Buffer_Read (n : Nat) (u0 : Option Addr) (u1 : Int) (h : Heap) : f_buffer_Buffer_Read n u0 u1 h = fB (sf_buffer_Buffer_Read n) (it_buffer_Buffer_Read n) n c2_buffer_Buffer_Read rs_buffer_Buffer_Read ps_buffer_Buffer_Read (u0, (u1, ())) h := by kernel_rfl
noncomputable def s_buffer_Buffer_Read (n : Nat) : Sf1 := mkSf ps_buffer_Buffer_Read rs_buffer_Buffer_Read fun a h => f_buffer_Buffer_Read n a.1 a.2.1 h

/- (*wicket/wicketlaw16.pair).plays -/
def c2_wicketlaw16_pair_plays : C2 :=
  .seq (.reg [(⟨(some 3), .box (.tmp 1), none⟩, .ptr),
      (⟨(some 4), .move (.const (.bool false)), none⟩, .bool)]) <|
  .seq (.reg [(⟨(some 14), .fieldAddr 1 (.tmp 3), none⟩, .ptr),
      (⟨(some 15), .load false 1 (.tmp 14), none⟩, (.int .i64)),
      (⟨(some 16), .bin .rem (.tmp 15) (.const (.int .i64 2)), none⟩, (.int .i64)),
      (⟨(some 17), .bin .add (.tmp 16) (.const (.int .i64 2)), none⟩, (.int .i64)),
      (⟨(some 18), .bin .rem (.tmp 17) (.const (.int .i64 2)), none⟩, (.int .i64)),
      (⟨(some 5), .move (.tmp 18), none⟩, (.int .i64))]) <|
  .seq (.regd [(⟨0, [], false, ⟨(some 19), .move (.tmp 0), none⟩⟩, .ptr),
      (⟨1, [], false, ⟨(some 20), .move (.tmp 5), none⟩⟩, (.int .i64)),
      (⟨2, [0], false, ⟨(some 21), .nilCheck (.tmp 19), none⟩⟩, .ptr),
      (⟨3, [2, 0], false, ⟨(some 22), .fieldAddr 0 (.tmp 21), none⟩⟩, .ptr),
      (⟨4, [3, 1, 2, 0], false, ⟨(some 23), .idxArr 2 1 (.tmp 22) (.tmp 20), none⟩⟩, .ptr),
      (⟨5, [4, 3, 1, 2, 0], false, ⟨(some 24), .load false 1 (.tmp 23), none⟩⟩, .ptr),
      (⟨6, [], false, ⟨(some 25), .move (.tmp 0), none⟩⟩, .ptr),
      (⟨7, [], false, ⟨(some 26), .move (.tmp 5), none⟩⟩, (.int .i64)),
      (⟨8, [6], false, ⟨(some 27), .nilCheck (.tmp 25), none⟩⟩, .ptr),
      (⟨9, [8, 6], false, ⟨(some 28), .fieldAddr 2 (.tmp 27), none⟩⟩, .ptr),
      (⟨10, [9, 7, 8, 6], false, ⟨(some 29), .idxArr 2 1 (.tmp 28) (.tmp 26), none⟩⟩, .ptr),
      (⟨11, [10, 9, 7, 8, 6], false, ⟨(some 30), .load false 1 (.tmp 29), none⟩⟩, .ptr),
      (⟨12, [5, 0, 1, 2, 3, 4], false, ⟨(some 6), .move (.tmp 24), none⟩⟩, .ptr),
      (⟨13, [11, 12, 0, 1, 2, 3, 4, 5, 6, 7, 8, 9, 10], false, ⟨(some 7), .move (.tmp 30), none⟩⟩, .ptr)]) <|
  .seq (.seq (.reg [(⟨(some 31), .fieldAddr 0 (.tmp 3), none⟩, .ptr),
        (⟨(some 32), .load false 1 (.tmp 31), none⟩, (.int .i64))]) <|
    .block 0 <|
      .seq (.reg [(⟨(some 34), .bin .eql (.tmp 32) (.const (.int .i64 1)), none⟩, .bool),
          (⟨(some 33), .move (.tmp 34), none⟩, .bool)]) <|
      .cond (.tmp 33)
        (.seq (.regd [(⟨0, [], false, ⟨(some 35), .move (.tmp 6), none⟩⟩, .ptr),
            (⟨1, [], false, ⟨(some 36), .fieldAddr 2 (.tmp 3), none⟩⟩, .ptr),
            (⟨2, [1], false, ⟨(some 37), .load false 1 (.tmp 36), none⟩⟩, (.int .i64)),
            (⟨3, [], false, ⟨(some 38), .fieldAddr 3 (.tmp 3), none⟩⟩, .ptr),
            (⟨4, [3], false, ⟨(some 39), .load true 32 (.tmp 38), none⟩⟩, .any),
            (⟨6, [], false, ⟨(some 41), .move (.tmp 7), none⟩⟩, .ptr),
            (⟨7, [], false, ⟨(some 42), .fieldAddr 2 (.tmp 3), none⟩⟩, .ptr),
            (⟨8, [7], false, ⟨(some 43), .load false 1 (.tmp 42), none⟩⟩, (.int .i64)),
            (⟨9, [], false, ⟨(some 44), .fieldAddr 3 (.tmp 3), none⟩⟩, .ptr),
            (⟨10, [9], false, ⟨(some 45), .load true 32 (.tmp 44), none⟩⟩, .any),
            (⟨5, [0, 2, 4, 1, 3], true, ⟨(some 40), .call k_buffer_Buffer_Write [(.tmp 35), (.tmp 37), (.tmp 39)], none⟩⟩, (.int .i64)),
            (⟨11, [6, 8, 10, 5, 7, 9, 0, 2, 4, 1, 3], true, ⟨(some 46), .call k_wicketref16_Buffer_Write [(.tmp 41), (.tmp 43), (.tmp 45)], none⟩⟩, (.int .i64)),
            (⟨12, [5, 11, 0, 2, 4, 1, 3, 6, 8, 10, 7, 9], false, ⟨(some 47), .bin .eql (.tmp 40) (.tmp 46), none⟩⟩, .bool),
            (⟨13, [12, 11, 0, 1, 2, 3, 4, 5, 6, 7, 8, 9, 10], false, ⟨(some 4), .move (.tmp 47), none⟩⟩, .bool)]) <|
        .ret)
        (.seq (.reg [(⟨(some 49), .bin .eql (.tmp 32) (.const (.int .i64 2)), none⟩, .bool),
            (⟨(some 48), .move (.tmp 49), none⟩, .bool)]) <|
        .cond (.tmp 48)
          (.seq (.reg [(⟨(some 51), .move (.tmp 6), none⟩, .ptr),
              (⟨(some 52), .fieldAddr 2 (.tmp 3), none⟩, .ptr),
              (⟨(some 53), .load false 1 (.tmp 52), none⟩, (.int .i64)),
              (⟨(some 54), .call k_buffer_Buffer_Read [(.tmp 51), (.tmp 53)], none⟩, .any),
              (⟨(some 50), .move (.tmp 54), none⟩, .any),
              (⟨(some 55), .extract (.tmp 50) 0, none⟩, .any),
              (⟨(some 56), .extract (.tmp 50) 1, none⟩, .bool),
              (⟨(some 57), .extract (.tmp 50) 2, none⟩, (.int .i64)),
              (⟨(some 8), .alloc (List.replicate 32 (.int .u8 0)), none⟩, .ptr),
              (⟨none, .store 32 (.tmp 8) (.tmp 55), none⟩, .any),
              (⟨(some 9), .move (.tmp 56), none⟩, .bool),
              (⟨(some 10), .move (.tmp 57), none⟩, (.int .i64))]) <|
          .seq (.reg [(⟨(some 59), .move (.tmp 7), none⟩, .ptr),
              (⟨(some 60), .fieldAddr 2 (.tmp 3), none⟩, .ptr),
              (⟨(some 61), .load false 1 (.tmp 60), none⟩, (.int .i64)),
              (⟨(some 62), .call k_wicketref16_Buffer_Read [(.tmp 59), (.tmp 61)], none⟩, .any),
              (⟨(some 58), .move (.tmp 62), none⟩, .any),
              (⟨(some 63), .extract (.tmp 58) 0, none⟩, .any),
              (⟨(some 64), .extract (.tmp 58) 1, none⟩, .bool),
              (⟨(some 65), .extract (.tmp 58) 2, none⟩, (.int .i64)),
              (⟨(some 11), .alloc (List.replicate 32 (.int .u8 0)), none⟩, .ptr),
              (⟨none, .store 32 (.tmp 11) (.tmp 63), none⟩, .any),
              (⟨(some 12), .move (.tmp 64), none⟩, .bool),
              (⟨(some 13), .move (.tmp 65), none⟩, (.int .i64))]) <|
          .seq (.reg [(⟨(some 66), .load true 32 (.tmp 8), none⟩, .any),
              (⟨(some 67), .load true 32 (.tmp 11), none⟩, .any),
              (⟨(some 68), .eqv false (.agg (List.replicate 32 false)) (.tmp 66) (.tmp 67), none⟩, .bool),
              (⟨(some 69), .move (.tmp 68), none⟩, .bool),
              (⟨(some 70), .move (.tmp 9), some (69, true)⟩, .bool),
              (⟨(some 71), .move (.tmp 12), some (69, true)⟩, .bool),
              (⟨(some 72), .eqv false .bool (.tmp 70) (.tmp 71), some (69, true)⟩, .bool),
              (⟨(some 73), .pick (.tmp 69) (.tmp 72) (.const (.bool false)), none⟩, .bool),
              (⟨(some 74), .move (.tmp 73), none⟩, .bool),
              (⟨(some 75), .move (.tmp 10), some (74, true)⟩, (.int .i64)),
              (⟨(some 76), .move (.tmp 13), some (74, true)⟩, (.int .i64)),
              (⟨(some 77), .bin .eql (.tmp 75) (.tmp 76), some (74, true)⟩, .bool),
              (⟨(some 78), .pick (.tmp 74) (.tmp 77) (.const (.bool false)), none⟩, .bool),
              (⟨(some 4), .move (.tmp 78), none⟩, .bool)]) <|
          .ret)
          (.seq (.reg [(⟨(some 80), .bin .eql (.tmp 32) (.const (.int .i64 3)), none⟩, .bool),
              (⟨(some 79), .move (.tmp 80), none⟩, .bool)]) <|
          .cond (.tmp 79)
            (.seq (.reg [(⟨(some 81), .move (.tmp 0), none⟩, .ptr),
                (⟨(some 82), .move (.tmp 5), none⟩, (.int .i64)),
                (⟨(some 83), .call k_wicketlaw16_pair_told [(.tmp 81), (.tmp 82)], none⟩, .bool),
                (⟨(some 4), .move (.tmp 83), none⟩, .bool)]) <|
            .ret)
            (.seq (.reg [(⟨(some 85), .bin .eql (.tmp 32) (.const (.int .i64 4)), none⟩, .bool),
                (⟨(some 84), .move (.tmp 85), none⟩, .bool)]) <|
            .cond (.tmp 84)
              (.seq (.regd [(⟨0, [], false, ⟨(some 86), .move (.tmp 0), none⟩⟩, .ptr),
                  (⟨1, [], false, ⟨(some 87), .move (.tmp 5), none⟩⟩, (.int .i64)),
                  (⟨2, [1], false, ⟨(some 88), .bin .sub (.const (.int .i64 1)) (.tmp 87), none⟩⟩, (.int .i64)),
                  (⟨3, [], false, ⟨(some 89), .move (.tmp 0), none⟩⟩, .ptr),
                  (⟨4, [], false, ⟨(some 90), .move (.tmp 5), none⟩⟩, (.int .i64)),
                  (⟨5, [4], false, ⟨(some 91), .bin .sub (.const (.int .i64 1)) (.tmp 90), none⟩⟩, (.int .i64)),
                  (⟨6, [], false, ⟨(some 92), .move (.tmp 6), none⟩⟩, .ptr),
                  (⟨8, [], false, ⟨(some 94), .move (.tmp 7), none⟩⟩, .ptr),
                  (⟨10, [0], false, ⟨(some 96), .nilCheck (.tmp 86), none⟩⟩, .ptr),
                  (⟨11, [10, 0], false, ⟨(some 97), .fieldAddr 0 (.tmp 96), none⟩⟩, .ptr),
                  (⟨14, [3], false, ⟨(some 99), .nilCheck (.tmp 89), none⟩⟩, .ptr),
                  (⟨15, [14, 3], false, ⟨(some 100), .fieldAddr 2 (.tmp 99), none⟩⟩, .ptr),
                  (⟨7, [6], true, ⟨(some 93), .call k_buffer_Buffer_Copy [(.tmp 92)], none⟩⟩, .ptr),
                  (⟨9, [8, 7, 6], true, ⟨(some 95), .call k_wicketref16_Buffer_Copy [(.tmp 94)], none⟩⟩, .ptr),
                  (⟨12, [11, 2, 0, 1, 6, 7, 9, 10, 8], false, ⟨(some 98), .idxArr 2 1 (.tmp 97) (.tmp 88), none⟩⟩, .ptr),
                  (⟨13, [12, 7, 9, 0, 1, 2, 6, 11, 10, 8], true, ⟨none, .store 1 (.tmp 98) (.tmp 93), none⟩⟩, .any),
                  (⟨16, [15, 5, 0, 1, 2, 3, 4, 6, 7, 8, 9, 10, 11, 12, 13, 14], false, ⟨(some 101), .idxArr 2 1 (.tmp 100) (.tmp 91), none⟩⟩, .ptr),
                  (⟨17, [16, 9, 13, 0, 1, 2, 3, 4, 5, 6, 7, 8, 10, 11, 12, 15, 14], true, ⟨none, .store 1 (.tmp 101) (.tmp 95), none⟩⟩, .any)]) <|
              .seq (.reg [(⟨(some 102), .move (.tmp 0), none⟩, .ptr),
                  (⟨(some 103), .move (.tmp 5), none⟩, (.int .i64)),
                  (⟨(some 104), .bin .sub (.const (.int .i64 1)) (.tmp 103), none⟩, (.int .i64)),
                  (⟨(some 105), .nilCheck (.tmp 102), none⟩, .ptr),
                  (⟨(some 106), .fieldAddr 0 (.tmp 105), none⟩, .ptr),
                  (⟨(some 107), .idxArr 2 1 (.tmp 106) (.tmp 104), none⟩, .ptr),
                  (⟨(some 108), .load false 1 (.tmp 107), none⟩, .ptr),
                  (⟨(some 109), .eqv true .ptr (.tmp 108) (.const (.pointer none)), none⟩, .bool),
                  (⟨(some 4), .move (.tmp 109), none⟩, .bool)]) <|
              .ret)
              (.skip))))) <|
  .seq (.reg [(⟨(some 4), .move (.const (.bool true)), none⟩, .bool)]) <|
  .ret
noncomputable def sf_wicketlaw16_pair_plays (n : Nat) : Sf := sfOf [(k_buffer_Buffer_Write, s_buffer_Buffer_Write n), (k_wicketref16_Buffer_Write, s_wicketref16_Buffer_Write n), (k_buffer_Buffer_Read, s_buffer_Buffer_Read n), (k_wicketref16_Buffer_Read, s_wicketref16_Buffer_Read n), (k_wicketlaw16_pair_told, s_wicketlaw16_pair_told n), (k_buffer_Buffer_Copy, s_buffer_Buffer_Copy n), (k_wicketref16_Buffer_Copy, s_wicketref16_Buffer_Copy n)]
noncomputable def it_wicketlaw16_pair_plays (n : Nat) : It := itOf []
def f_wicketlaw16_pair_plays (n : Nat) (u0 : Option Addr) (u1 : Value) (h : Heap) : Option ((Bool × Unit) × Heap) :=
  bif (cellsOf u1).all isCell then
    (bnd ((Heap.new h (.cells (cellsOf u1) false 0))) fun h0 =>
    (ldT (.int .i64) h0 (some (fa (nwA h) 1))).bind fun x1 =>
    (u0).bind fun q2 =>
    (ixA 2 1 (some (fa q2 0)) (Int.tmod (IntKind.i64.wrap ((Int.tmod x1 2) + 2)) 2)).bind fun q3 =>
    (ldT .ptr h0 (some q3)).bind fun x4 =>
    (u0).bind fun q5 =>
    (ixA 2 1 (some (fa q5 2)) (Int.tmod (IntKind.i64.wrap ((Int.tmod x1 2) + 2)) 2)).bind fun q6 =>
    (ldT .ptr h0 (some q6)).bind fun x7 =>
    (ldT (.int .i64) h0 (some (fa (nwA h) 0))).bind fun x8 =>
    bif (decide (x8 = 1)) then
      ((ldT (.int .i64) h0 (some (fa (nwA h) 2))).bind fun x9 =>
      (ldA 32 h0 (some (fa (nwA h) 3))).bind fun cs10 =>
      (ldT (.int .i64) h0 (some (fa (nwA h) 2))).bind fun x11 =>
      (ldA 32 h0 (some (fa (nwA h) 3))).bind fun cs12 =>
      (f_buffer_Buffer_Write n x4 x9 (.agg ⟨cs10⟩) (hid h0 [] ((Addr.block (fa (nwA h) 3)) :: ((Addr.block (fa (nwA h) 2)) :: [])))).bind fun p13 =>
      bnd (Heap.putBack p13.2 h0 ([] ++ ((Addr.block (fa (nwA h) 3)) :: ((Addr.block (fa (nwA h) 2)) :: [])))) fun h14 =>
      (f_wicketref16_Buffer_Write n x7 x11 (.agg ⟨cs12⟩) h14).bind fun p15 =>
      some (((decide (p13.1.1 = p15.1.1)), ()), p15.2))
    else
      (bif (decide (x8 = 2)) then
        ((ldT (.int .i64) h0 (some (fa (nwA h) 2))).bind fun x16 =>
        (f_buffer_Buffer_Read n x4 x16 h0).bind fun p17 =>
        bnd ((Heap.new p17.2 (.cells (List.replicate 32 (.int .u8 0)) false 0))) fun h18 =>
        (stB 32 p17.1.1 h18 (some (nwA p17.2))).bind fun h19 =>
        (ldT (.int .i64) h19 (some (fa (nwA h) 2))).bind fun x20 =>
        (f_wicketref16_Buffer_Read n x7 x20 h19).bind fun p21 =>
        bnd ((Heap.new p21.2 (.cells (List.replicate 32 (.int .u8 0)) false 0))) fun h22 =>
        (stB 32 p21.1.1 h22 (some (nwA p21.2))).bind fun h23 =>
        (ldA 32 h23 (some (nwA p17.2))).bind fun cs24 =>
        (ldA 32 h23 (some (nwA p21.2))).bind fun cs25 =>
        (eqVals h23 (.agg (List.replicate 32 false)) (.agg ⟨cs24⟩) (.agg ⟨cs25⟩)).bind fun b26 =>
        bif b26 then
          (bif (p17.1.2.1 == p21.1.2.1) then
            (some (((decide (p17.1.2.2.1 = p21.1.2.2.1)), ()), h23))
          else
            (some ((false, ()), h23)))
        else
          (some ((false, ()), h23)))
      else
        (bif (decide (x8 = 3)) then
          ((f_wicketlaw16_pair_told n u0 (Int.tmod (IntKind.i64.wrap ((Int.tmod x1 2) + 2)) 2) h0).bind fun p27 =>
          some ((p27.1.1, ()), p27.2))
        else
          (bif (decide (x8 = 4)) then
            ((u0).bind fun q28 =>
            (u0).bind fun q29 =>
            (f_buffer_Buffer_Copy n x4 h0).bind fun p30 =>
            (f_wicketref16_Buffer_Copy n x7 p30.2).bind fun p31 =>
            (ixA 2 1 (some (fa q28 0)) (IntKind.i64.wrap (1 - (Int.tmod (IntKind.i64.wrap ((Int.tmod x1 2) + 2)) 2)))).bind fun q32 =>
            (stB 1 (.pointer p30.1.1) p31.2 (some q32)).bind fun h33 =>
            (ixA 2 1 (some (fa q29 2)) (IntKind.i64.wrap (1 - (Int.tmod (IntKind.i64.wrap ((Int.tmod x1 2) + 2)) 2)))).bind fun q34 =>
            (stB 1 (.pointer p31.1.1) h33 (some q34)).bind fun h35 =>
            (u0).bind fun q36 =>
            (ixA 2 1 (some (fa q36 0)) (IntKind.i64.wrap (1 - (Int.tmod (IntKind.i64.wrap ((Int.tmod x1 2) + 2)) 2)))).bind fun q37 =>
            (ldT .ptr h35 (some q37)).bind fun x38 =>
            some (((!Option.isNone x38), ()), h35))
          else
            (some ((true, ()), h0))))))
  else
    (none)
def rs_wicketlaw16_pair_plays : Rs := [(.tmp 4, .bool)]
def ps_wicketlaw16_pair_plays : List Ty := [.ptr, .any]
theorem e_wicketlaw16_pair_plays (n : Nat) (u0 : Option Addr) (u1 : Value) (h : Heap) : f_wicketlaw16_pair_plays n u0 u1 h = fB (sf_wicketlaw16_pair_plays n) (it_wicketlaw16_pair_plays n) n c2_wicketlaw16_pair_plays rs_wicketlaw16_pair_plays ps_wicketlaw16_pair_plays (u0, (u1, ())) h := by kernel_rfl
noncomputable def s_wicketlaw16_pair_plays (n : Nat) : Sf1 := mkSf ps_wicketlaw16_pair_plays rs_wicketlaw16_pair_plays fun a h => f_wicketlaw16_pair_plays n a.1 a.2.1 h

/- wicket/wicketlaw16.BufferPlays -/
def c2_wicketlaw16_BufferPlays : C2 :=
  .seq (.reg [(⟨(some 6), .move (.const (.bool false)), none⟩, .bool)]) <|
  .seq (.seq (.reg [(⟨(some 18), .call k_wicketlaw16_awake [], none⟩, .bool),
        (⟨(some 19), .un .not (.tmp 18), none⟩, .bool)]) <|
    .cond (.tmp 19)
      (.seq (.reg [(⟨(some 6), .move (.const (.bool false)), none⟩, .bool)]) <|
      .ret)
      (.skip)) <|
  .seq (.reg [(⟨(some 20), .build [(.pointer none), (.pointer none), (.pointer none), (.pointer none), (.slice none 0 0), (.slice none 0 0), (.slice none 0 0)] [], none⟩, .any),
      (⟨(some 21), .box (.tmp 20), none⟩, .ptr),
      (⟨(some 7), .move (.tmp 21), none⟩, .ptr)]) <|
  .seq (.cut [] <|
      .seq (.reg [(⟨(some 8), .move (.const (.int .i64 0)), none⟩, (.int .i64))]) <|
      .block 0 <|
        .loop [(8, (.int .i64))] <|
          .seq (.seq (.reg [(⟨(some 22), .move (.tmp 8), none⟩, (.int .i64)),
                (⟨(some 23), .bin .lss (.tmp 22) (.const (.int .i64 2)), none⟩, .bool)]) <|
            .cond (.tmp 23)
              (.skip)
              (.exit 0)) <|
          .seq (.cut [] <|
              .block 1 <|
                .seq (.reg [(⟨(some 26), .move (.tmp 0), none⟩, .any),
                    (⟨(some 9), .move (.tmp 26), none⟩, .any)]) <|
                .seq (.cutn [(9, .any)] <|
                    .seq (.reg [(⟨(some 27), .move (.tmp 8), none⟩, (.int .i64)),
                        (⟨(some 28), .bin .eql (.tmp 27) (.const (.int .i64 1)), none⟩, .bool)]) <|
                    .cond (.tmp 28)
                      (.reg [(⟨(some 29), .move (.tmp 1), none⟩, .any),
                        (⟨(some 9), .move (.tmp 29), none⟩, .any)])
                      (.skip)) <|
                .seq (.reg [(⟨(some 30), .move (.tmp 9), none⟩, .any),
                    (⟨(some 31), .call k_wicketlaw05_Roomy [(.tmp 30)], none⟩, .any),
                    (⟨(some 10), .move (.tmp 31), none⟩, .any)]) <|
                .seq (.reg [(⟨(some 33), .move (.tmp 10), none⟩, .any),
                    (⟨(some 34), .call k_buffer_New [(.tmp 33)], none⟩, .any),
                    (⟨(some 32), .move (.tmp 34), none⟩, .any),
                    (⟨(some 35), .extract (.tmp 32) 0, none⟩, .ptr),
                    (⟨(some 36), .extract (.tmp 32) 1, none⟩, (.int .i64)),
                    (⟨(some 11), .move (.tmp 35), none⟩, .ptr),
                    (⟨(some 12), .move (.tmp 36), none⟩, (.int .i64))]) <|
                .seq (.reg [(⟨(some 38), .move (.tmp 9), none⟩, .any),
                    (⟨(some 39), .call k_wicketref16_New [(.tmp 38)], none⟩, .any),
                    (⟨(some 37), .move (.tmp 39), none⟩, .any),
                    (⟨(some 40), .extract (.tmp 37) 0, none⟩, .ptr),
                    (⟨(some 41), .extract (.tmp 37) 1, none⟩, (.int .i64)),
                    (⟨(some 13), .move (.tmp 40), none⟩, .ptr),
                    (⟨(some 14), .move (.tmp 41), none⟩, (.int .i64))]) <|
                .seq (.seq (.cutn [(57, .bool)] <|
                      .reg [(⟨(some 42), .move (.tmp 12), none⟩, (.int .i64)),
                        (⟨(some 43), .move (.tmp 14), none⟩, (.int .i64)),
                        (⟨(some 44), .bin .neq (.tmp 42) (.tmp 43), none⟩, .bool),
                        (⟨(some 45), .move (.tmp 44), none⟩, .bool),
                        (⟨(some 46), .move (.tmp 11), some (45, false)⟩, .ptr),
                        (⟨(some 47), .eqv false .ptr (.tmp 46) (.const (.pointer none)), some (45, false)⟩, .bool),
                        (⟨(some 48), .move (.tmp 13), some (45, false)⟩, .ptr),
                        (⟨(some 49), .eqv false .ptr (.tmp 48) (.const (.pointer none)), some (45, false)⟩, .bool),
                        (⟨(some 50), .eqv true .bool (.tmp 47) (.tmp 49), some (45, false)⟩, .bool),
                        (⟨(some 51), .pick (.tmp 45) (.const (.bool true)) (.tmp 50), none⟩, .bool),
                        (⟨(some 52), .move (.tmp 51), none⟩, .bool),
                        (⟨(some 53), .move (.tmp 10), some (52, false)⟩, .any),
                        (⟨(some 54), .move (.tmp 9), some (52, false)⟩, .any),
                        (⟨(some 55), .call k_wicketlaw05_Held [(.tmp 53), (.tmp 54)], some (52, false)⟩, .bool),
                        (⟨(some 56), .un .not (.tmp 55), some (52, false)⟩, .bool),
                        (⟨(some 57), .pick (.tmp 52) (.const (.bool true)) (.tmp 56), none⟩, .bool)]) <|
                  .cond (.tmp 57)
                    (.seq (.reg [(⟨(some 6), .move (.const (.bool false)), none⟩, .bool)]) <|
                    .ret)
                    (.skip)) <|
                .seq (.cutn [] <|
                    .seq (.reg [(⟨(some 15), .move (.const (.int .i64 0)), none⟩, (.int .i64))]) <|
                    .block 2 <|
                      .loop [(15, (.int .i64))] <|
                        .seq (.seq (.reg [(⟨(some 58), .move (.tmp 15), none⟩, (.int .i64)),
                              (⟨(some 59), .move (.tmp 10), none⟩, .any),
                              (⟨(some 60), .lenS (.tmp 59), none⟩, (.int .i64)),
                              (⟨(some 61), .bin .lss (.tmp 58) (.tmp 60), none⟩, .bool)]) <|
                          .cond (.tmp 61)
                            (.skip)
                            (.exit 2)) <|
                        .seq (.block 3 <|
                            .reg [(⟨(some 64), .move (.tmp 10), none⟩, .any),
                              (⟨(some 65), .move (.tmp 15), none⟩, (.int .i64)),
                              (⟨(some 66), .move (.tmp 15), none⟩, (.int .i64)),
                              (⟨(some 67), .bin .sub (.const (.int .i64 63)) (.tmp 66), none⟩, (.int .i64)),
                              (⟨(some 68), .idxSlice 1 (.tmp 64) (.tmp 65), none⟩, .ptr),
                              (⟨none, .store 1 (.tmp 68) (.tmp 67), none⟩, .any)]) <|
                        .reg [(⟨(some 62), .move (.tmp 15), none⟩, (.int .i64)),
                          (⟨(some 63), .bin .add (.tmp 62) (.const (.int .i64 1)), none⟩, (.int .i64)),
                          (⟨(some 15), .move (.tmp 63), none⟩, (.int .i64))]) <|
                .seq (.cut [(11, .ptr), (13, .ptr)] <|
                    .seq (.reg [(⟨(some 69), .move (.tmp 13), none⟩, .ptr),
                        (⟨(some 70), .eqv false .ptr (.tmp 69) (.const (.pointer none)), none⟩, .bool)]) <|
                    .cond (.tmp 70)
                      (.seq (.reg [(⟨(some 72), .buildSlice 3 1 [(.int .i64 0), (.int .i64 0), (.int .i64 0)] [(0, 1, (.const (.int .i64 0))), (1, 1, (.const (.int .i64 2))), (2, 1, (.const (.int .i64 5)))], none⟩, .any),
                          (⟨(some 73), .call k_buffer_New [(.tmp 72)], none⟩, .any),
                          (⟨(some 71), .move (.tmp 73), none⟩, .any),
                          (⟨(some 74), .extract (.tmp 71) 0, none⟩, .ptr),
                          (⟨(some 75), .extract (.tmp 71) 1, none⟩, (.int .i64)),
                          (⟨(some 11), .move (.tmp 74), none⟩, .ptr),
                          (⟨(some 12), .move (.tmp 75), none⟩, (.int .i64))]) <|
                      .seq (.reg [(⟨(some 77), .buildSlice 3 1 [(.int .i64 0), (.int .i64 0), (.int .i64 0)] [(0, 1, (.const (.int .i64 0))), (1, 1, (.const (.int .i64 2))), (2, 1, (.const (.int .i64 5)))], none⟩, .any),
                          (⟨(some 78), .call k_wicketref16_New [(.tmp 77)], none⟩, .any),
                          (⟨(some 76), .move (.tmp 78), none⟩, .any),
                          (⟨(some 79), .extract (.tmp 76) 0, none⟩, .ptr),
                          (⟨(some 80), .extract (.tmp 76) 1, none⟩, (.int .i64)),
                          (⟨(some 13), .move (.tmp 79), none⟩, .ptr),
                          (⟨(some 14), .move (.tmp 80), none⟩, (.int .i64))]) <|
                      .seq (.cutn [(90, .bool)] <|
                          .reg [(⟨(some 81), .move (.tmp 12), none⟩, (.int .i64)),
                            (⟨(some 82), .bin .neq (.tmp 81) (.const (.int .i64 0)), none⟩, .bool),
                            (⟨(some 83), .move (.tmp 82), none⟩, .bool),
                            (⟨(some 84), .move (.tmp 14), some (83, false)⟩, (.int .i64)),
                            (⟨(some 85), .bin .neq (.tmp 84) (.const (.int .i64 0)), some (83, false)⟩, .bool),
                            (⟨(some 86), .pick (.tmp 83) (.const (.bool true)) (.tmp 85), none⟩, .bool),
                            (⟨(some 87), .move (.tmp 86), none⟩, .bool),
                            (⟨(some 88), .move (.tmp 11), some (87, false)⟩, .ptr),
                            (⟨(some 89), .eqv false .ptr (.tmp 88) (.const (.pointer none)), some (87, false)⟩, .bool),
                            (⟨(some 90), .pick (.tmp 87) (.const (.bool true)) (.tmp 89), none⟩, .bool)]) <|
                      .cond (.tmp 90)
                        (.seq (.reg [(⟨(some 6), .move (.const (.bool false)), none⟩, .bool)]) <|
                        .ret)
                        (.skip))
                      (.skip)) <|
                .regd [(⟨0, [], false, ⟨(some 91), .move (.tmp 7), none⟩⟩, .ptr),
                  (⟨1, [], false, ⟨(some 92), .move (.tmp 8), none⟩⟩, (.int .i64)),
                  (⟨2, [], false, ⟨(some 93), .move (.tmp 7), none⟩⟩, .ptr),
                  (⟨3, [], false, ⟨(some 94), .move (.tmp 8), none⟩⟩, (.int .i64)),
                  (⟨4, [], false, ⟨(some 95), .move (.tmp 11), none⟩⟩, .ptr),
                  (⟨5, [], false, ⟨(some 96), .move (.tmp 13), none⟩⟩, .ptr),
                  (⟨6, [0], false, ⟨(some 97), .nilCheck (.tmp 91), none⟩⟩, .ptr),
                  (⟨7, [6, 0], false, ⟨(some 98), .fieldAddr 0 (.tmp 97), none⟩⟩, .ptr),
                  (⟨8, [7, 1, 0, 4, 6], false, ⟨(some 99), .idxArr 2 1 (.tmp 98) (.tmp 92), none⟩⟩, .ptr),
                  (⟨10, [2], false, ⟨(some 100), .nilCheck (.tmp 93), none⟩⟩, .ptr),
                  (⟨11, [10, 2], false, ⟨(some 101), .fieldAddr 2 (.tmp 100), none⟩⟩, .ptr),
                  (⟨9, [8, 4, 0, 1, 7, 6], true, ⟨none, .store 1 (.tmp 99) (.tmp 95), none⟩⟩, .any),
                  (⟨12, [11, 3, 0, 1, 2, 4, 5, 6, 7, 8, 9, 10], false, ⟨(some 102), .idxArr 2 1 (.tmp 101) (.tmp 94), none⟩⟩, .ptr),
                  (⟨13, [12, 5, 9, 0, 1, 2, 3, 4, 6, 7, 8, 11, 10], true, ⟨none, .store 1 (.tmp 102) (.tmp 96), none⟩⟩, .any)]) <|
          .reg [(⟨(some 24), .move (.tmp 8), none⟩, (.int .i64)),
            (⟨(some 25), .bin .add (.tmp 24) (.const (.int .i64 1)), none⟩, (.int .i64)),
            (⟨(some 8), .move (.tmp 25), none⟩, (.int .i64))]) <|
  .seq (.cut [] <|
      .seq (.reg [(⟨(some 16), .move (.const (.int .i64 0)), none⟩, (.int .i64))]) <|
      .block 4 <|
        .loop [(16, (.int .i64))] <|
          .seq (.seq (.cutn [(110, .bool)] <|
                .reg [(⟨(some 103), .move (.tmp 16), none⟩, (.int .i64)),
                  (⟨(some 104), .move (.tmp 2), none⟩, .any),
                  (⟨(some 105), .lenS (.tmp 104), none⟩, (.int .i64)),
                  (⟨(some 106), .bin .lss (.tmp 103) (.tmp 105), none⟩, .bool),
                  (⟨(some 107), .move (.tmp 106), none⟩, .bool),
                  (⟨(some 108), .move (.tmp 16), some (107, true)⟩, (.int .i64)),
                  (⟨(some 109), .bin .lss (.tmp 108) (.const (.int .i64 100)), some (107, true)⟩, .bool),
                  (⟨(some 110), .pick (.tmp 107) (.tmp 109) (.const (.bool false)), none⟩, .bool)]) <|
            .cond (.tmp 110)
              (.skip)
              (.exit 4)) <|
          .seq (.block 5 <|
              .seq (.reg [(⟨(some 113), .move (.tmp 7), none⟩, .ptr),
                  (⟨(some 114), .move (.tmp 2), none⟩, .any),
                  (⟨(some 115), .move (.tmp 16), none⟩, (.int .i64)),
                  (⟨(some 116), .idxSlice 35 (.tmp 114) (.tmp 115), none⟩, .ptr),
                  (⟨(some 117), .load true 35 (.tmp 116), none⟩, .any),
                  (⟨(some 118), .call k_wicketlaw16_pair_plays [(.tmp 113), (.tmp 117)], none⟩, .bool),
                  (⟨(some 119), .un .not (.tmp 118), none⟩, .bool)]) <|
              .cond (.tmp 119)
                (.seq (.reg [(⟨(some 6), .move (.const (.bool false)), none⟩, .bool)]) <|
                .ret)
                (.skip)) <|
          .reg [(⟨(some 111), .move (.tmp 16), none⟩, (.int .i64)),
            (⟨(some 112), .bin .add (.tmp 111) (.const (.int .i64 1)), none⟩, (.int .i64)),
            (⟨(some 16), .move (.tmp 112), none⟩, (.int .i64))]) <|
  .seq (.seq (.cutn [(127, .bool)] <|
        .reg [(⟨(some 120), .move (.tmp 7), none⟩, .ptr),
          (⟨(some 121), .call k_wicketlaw16_pair_told [(.tmp 120), (.const (.int .i64 0))], none⟩, .bool),
          (⟨(some 122), .un .not (.tmp 121), none⟩, .bool),
          (⟨(some 123), .move (.tmp 122), none⟩, .bool),
          (⟨(some 124), .move (.tmp 7), some (123, false)⟩, .ptr),
          (⟨(some 125), .call k_wicketlaw16_pair_told [(.tmp 124), (.const (.int .i64 1))], some (123, false)⟩, .bool),
          (⟨(some 126), .un .not (.tmp 125), some (123, false)⟩, .bool),
          (⟨(some 127), .pick (.tmp 123) (.const (.bool true)) (.tmp 126), none⟩, .bool)]) <|
    .cond (.tmp 127)
      (.seq (.reg [(⟨(some 6), .move (.const (.bool false)), none⟩, .bool)]) <|
      .ret)
      (.skip)) <|
  .seq (.cut [] <|
      .seq (.reg [(⟨(some 17), .move (.const (.int .i64 0)), none⟩, (.int .i64))]) <|
      .block 6 <|
        .loop [(17, (.int .i64))] <|
          .seq (.seq (.reg [(⟨(some 128), .move (.tmp 17), none⟩, (.int .i64)),
                (⟨(some 129), .move (.tmp 7), none⟩, .ptr),
                (⟨(some 130), .nilCheck (.tmp 129), none⟩, .ptr),
                (⟨(some 131), .fieldAddr 4 (.tmp 130), none⟩, .ptr),
                (⟨(some 132), .load false 1 (.tmp 131), none⟩, .any),
                (⟨(some 133), .lenS (.tmp 132), none⟩, (.int .i64)),
                (⟨(some 134), .bin .lss (.tmp 128) (.tmp 133), none⟩, .bool)]) <|
            .cond (.tmp 134)
              (.skip)
              (.exit 6)) <|
          .seq (.block 7 <|
              .seq (.regd [(⟨0, [], false, ⟨(some 137), .move (.tmp 7), none⟩⟩, .ptr),
                  (⟨1, [0], false, ⟨(some 138), .nilCheck (.tmp 137), none⟩⟩, .ptr),
                  (⟨2, [1, 0], false, ⟨(some 139), .fieldAddr 4 (.tmp 138), none⟩⟩, .ptr),
                  (⟨3, [2, 1, 0], false, ⟨(some 140), .load false 1 (.tmp 139), none⟩⟩, .any),
                  (⟨4, [], false, ⟨(some 141), .move (.tmp 17), none⟩⟩, (.int .i64)),
                  (⟨5, [3, 4, 2, 1, 0], false, ⟨(some 142), .idxSlice 1 (.tmp 140) (.tmp 141), none⟩⟩, .ptr),
                  (⟨6, [5, 3, 4, 2, 1, 0], false, ⟨(some 143), .load false 1 (.tmp 142), none⟩⟩, .any),
                  (⟨7, [], false, ⟨(some 144), .move (.tmp 7), none⟩⟩, .ptr),
                  (⟨8, [7], false, ⟨(some 145), .nilCheck (.tmp 144), none⟩⟩, .ptr),
                  (⟨9, [8, 7], false, ⟨(some 146), .fieldAddr 5 (.tmp 145), none⟩⟩, .ptr),
                  (⟨10, [9, 8, 7], false, ⟨(some 147), .load false 1 (.tmp 146), none⟩⟩, .any),
                  (⟨11, [], false, ⟨(some 148), .move (.tmp 17), none⟩⟩, (.int .i64)),
                  (⟨12, [10, 11, 9, 8, 7], false, ⟨(some 149), .idxSlice 1 (.tmp 147) (.tmp 148), none⟩⟩, .ptr),
                  (⟨13, [12, 10, 11, 9, 8, 7], false, ⟨(some 150), .load false 1 (.tmp 149), none⟩⟩, .any),
                  (⟨14, [6, 13, 5, 3, 4, 2, 1, 0, 12, 10, 11, 9, 8, 7], true, ⟨(some 151), .call k_wicketref16_Same [(.tmp 143), (.tmp 150)], none⟩⟩, .bool),
                  (⟨15, [14, 6, 13, 5, 3, 4, 2, 1, 0, 12, 10, 11, 9, 8, 7], false, ⟨(some 152), .un .not (.tmp 151), none⟩⟩, .bool)]) <|
              .cond (.tmp 152)
                (.seq (.reg [(⟨(some 6), .move (.const (.bool false)), none⟩, .bool)]) <|
                .ret)
                (.skip)) <|
          .reg [(⟨(some 135), .move (.tmp 17), none⟩, (.int .i64)),
            (⟨(some 136), .bin .add (.tmp 135) (.const (.int .i64 1)), none⟩, (.int .i64)),
            (⟨(some 17), .move (.tmp 136), none⟩, (.int .i64))]) <|
  .seq (.seq (.cutn [(166, .bool)] <|
        .reg [(⟨(some 153), .move (.tmp 7), none⟩, .ptr),
          (⟨(some 154), .nilCheck (.tmp 153), none⟩, .ptr),
          (⟨(some 155), .fieldAddr 4 (.tmp 154), none⟩, .ptr),
          (⟨(some 156), .load false 1 (.tmp 155), none⟩, .any),
          (⟨(some 157), .call k_wicketlaw16_Apart [(.tmp 156)], none⟩, .bool),
          (⟨(some 158), .un .not (.tmp 157), none⟩, .bool),
          (⟨(some 159), .move (.tmp 158), none⟩, .bool),
          (⟨(some 160), .move (.tmp 7), some (159, false)⟩, .ptr),
          (⟨(some 161), .nilCheck (.tmp 160), some (159, false)⟩, .ptr),
          (⟨(some 162), .fieldAddr 6 (.tmp 161), some (159, false)⟩, .ptr),
          (⟨(some 163), .load false 1 (.tmp 162), some (159, false)⟩, .any),
          (⟨(some 164), .call k_wicketlaw05_Apart [(.tmp 163)], some (159, false)⟩, .bool),
          (⟨(some 165), .un .not (.tmp 164), some (159, false)⟩, .bool),
          (⟨(some 166), .pick (.tmp 159) (.const (.bool true)) (.tmp 165), none⟩, .bool)]) <|
    .cond (.tmp 166)
      (.seq (.reg [(⟨(some 6), .move (.const (.bool false)), none⟩, .bool)]) <|
      .ret)
      (.skip)) <|
  .seq (.reg [(⟨(some 167), .move (.tmp 7), none⟩, .ptr),
      (⟨(some 168), .call k_wicketlaw16_pair_told [(.tmp 167), (.const (.int .i64 0))], none⟩, .bool),
      (⟨(some 169), .move (.tmp 168), none⟩, .bool),
      (⟨(some 170), .move (.tmp 7), some (169, true)⟩, .ptr),
      (⟨(some 171), .call k_wicketlaw16_pair_told [(.tmp 170), (.const (.int .i64 1))], some (169, true)⟩, .bool),
      (⟨(some 172), .pick (.tmp 169) (.tmp 171) (.const (.bool false)), none⟩, .bool),
      (⟨(some 6), .move (.tmp 172), none⟩, .bool)]) <|
  .ret
def f_wicketlaw16_BufferPlays_L18 (n : Nat) (p8 : ((Value × Unit) × Heap)) (v13 : Int) (h14 : Heap) : Option (((Int × Unit) × Heap) ⊕ ((Unit) × Heap)) :=
  (lenB p8.1.1).bind fun n15 =>
  bif (decide (v13 < (n15 : Int))) then
    ((ixB 1 p8.1.1 v13).bind fun q16 =>
    (stB 1 (.int .i64 (IntKind.i64.wrap (63 - v13))) h14 (some q16)).bind fun h17 =>
    some (.inl (((IntKind.i64.wrap (v13 + 1)), ()), h17)))
  else
    (some (.inr ((), h14)))
def f_wicketlaw16_BufferPlays_C28 (n : Nat) (p9 : ((Option Addr × Int × Unit) × Heap)) (p10 : ((Option Addr × Int × Unit) × Heap)) (h20 : Heap) : Option (((Option Addr × Option Addr × Unit) × Heap) ⊕ (((Unit) × Heap) ⊕ (((Int × Unit) × Heap) ⊕ (((Unit) × Heap) ⊕ ((Bool × Unit) × Heap))))) :=
  bif (Option.isNone p10.1.1) then
    ((fillL [(.int .i64 0), (.int .i64 0), (.int .i64 0)] [(0, 1, (.int .i64 0)), (1, 1, (.int .i64 2)), (2, 1, (.int .i64 5))]).bind fun cs21 =>
    bnd ((Heap.new h20 (.cells cs21 false 1))) fun h22 =>
    (f_buffer_New n (.slice (some ⟨Heap.next h20, 0, some 0⟩) 3 3) h22).bind fun p23 =>
    (fillL [(.int .i64 0), (.int .i64 0), (.int .i64 0)] [(0, 1, (.int .i64 0)), (1, 1, (.int .i64 2)), (2, 1, (.int .i64 5))]).bind fun cs24 =>
    bnd ((Heap.new p23.2 (.cells cs24 false 1))) fun h25 =>
    (f_wicketref16_New n (.slice (some ⟨Heap.next p23.2, 0, some 0⟩) 3 3) h25).bind fun p26 =>
    ((bif (!decide (p23.1.2.1 = 0)) then
        (some ((true, ()), p26.2))
      else
        (bif (!decide (p26.1.2.1 = 0)) then
          (some ((true, ()), p26.2))
        else
          (some (((Option.isNone p23.1.1), ()), p26.2)))) : Option ((Bool × Unit) × Heap)).bind fun a27 =>
    bif a27.1.1 then
      (some (.inr (.inr (.inr (.inr ((false, ()), a27.2))))))
    else
      (some (.inl ((p23.1.1, (p26.1.1, ())), a27.2))))
  else
    (some (.inl ((p9.1.1, (p10.1.1, ())), h20)))
def f_wicketlaw16_BufferPlays_C34 (n : Nat) (u1 : Value) (u0 : Value) (p0 : ((Bool × Unit) × Heap)) (v4 : Int) (h6 : Heap) : Option (((Unit) × Heap) ⊕ (((Int × Unit) × Heap) ⊕ (((Unit) × Heap) ⊕ ((Bool × Unit) × Heap)))) :=
  ((bif (decide (v4 = 1)) then
      (some ((u1, ()), h6))
    else
      (some ((u0, ()), h6))) : Option ((Value × Unit) × Heap)).bind fun a7 =>
  (f_wicketlaw05_Roomy n a7.1.1 a7.2).bind fun p8 =>
  (f_buffer_New n p8.1.1 p8.2).bind fun p9 =>
  (f_wicketref16_New n a7.1.1 p9.2).bind fun p10 =>
  ((bif (!decide (p9.1.2.1 = p10.1.2.1)) then
      (some ((true, ()), p10.2))
    else
      (bif (!((Option.isNone p9.1.1) == (Option.isNone p10.1.1))) then
        (some ((true, ()), p10.2))
      else
        ((f_wicketlaw05_Held n p8.1.1 a7.1.1 p10.2).bind fun p11 =>
        some (((!p11.1.1), ()), p11.2)))) : Option ((Bool × Unit) × Heap)).bind fun a12 =>
  bif a12.1.1 then
    (some (.inr (.inr (.inr ((false, ()), a12.2)))))
  else
    (((loopT (fun a => f_wicketlaw16_BufferPlays_L18 n p8 a.1.1 a.2) n ((0, ()), a12.2)) : Option ((Unit) × Heap)).bind fun a19 =>
    thenB (f_wicketlaw16_BufferPlays_C28 n p9 p10 (a19.2)) fun a29 =>
    (ixA 2 1 (some (fa (nwA p0.2) 0)) v4).bind fun q30 =>
    (stB 1 (.pointer a29.1.1) a29.2 (some q30)).bind fun h31 =>
    (ixA 2 1 (some (fa (nwA p0.2) 2)) v4).bind fun q32 =>
    (stB 1 (.pointer a29.1.2.1) h31 (some q32)).bind fun h33 =>
    some (.inl ((), h33)))
def f_wicketlaw16_BufferPlays_L36 (n : Nat) (u1 : Value) (u0 : Value) (p0 : ((Bool × Unit) × Heap)) (v4 : Int) (h5 : Heap) : Option (((Int × Unit) × Heap) ⊕ (((Unit) × Heap) ⊕ ((Bool × Unit) × Heap))) :=
  bif (decide (v4 < 2)) then
    (thenB (f_wicketlaw16_BufferPlays_C34 n u1 u0 p0 v4 (h5)) fun a35 =>
    some (.inl (((IntKind.i64.wrap (v4 + 1)), ()), a35.2)))
  else
    (some (.inr (.inl ((), h5))))
def f_wicketlaw16_BufferPlays_C37 (n : Nat) (u1 : Value) (u0 : Value) (p0 : ((Bool × Unit) × Heap)) (h3 : Heap) : Option (((Unit) × Heap) ⊕ ((Bool × Unit) × Heap)) :=
  loopT (fun a => f_wicketlaw16_BufferPlays_L36 n u1 u0 p0 a.1.1 a.2) n ((0, ()), h3)
def f_wicketlaw16_BufferPlays_L47 (n : Nat) (u2 : Value) (p0 : ((Bool × Unit) × Heap)) (v40 : Int) (h41 : Heap) : Option (((Int × Unit) × Heap) ⊕ (((Unit) × Heap) ⊕ ((Bool × Unit) × Heap))) :=
  (((lenB u2).bind fun n42 =>
    bif (decide (v40 < (n42 : Int))) then
      (some (((decide (v40 < 100)), ()), h41))
    else
      (some ((false, ()), h41))) : Option ((Bool × Unit) × Heap)).bind fun a43 =>
  bif a43.1.1 then
    ((ixB 35 u2 v40).bind fun q44 =>
    (ldA 35 a43.2 (some q44)).bind fun cs45 =>
    (f_wicketlaw16_pair_plays n (some (nwA p0.2)) (.agg ⟨cs45⟩) a43.2).bind fun p46 =>
    bif (!p46.1.1) then
      (some (.inr (.inr ((false, ()), p46.2))))
    else
      (some (.inl (((IntKind.i64.wrap (v40 + 1)), ()), p46.2))))
  else
    (some (.inr (.inl ((), a43.2))))
def f_wicketlaw16_BufferPlays_C48 (n : Nat) (u2 : Value) (p0 : ((Bool × Unit) × Heap)) (h39 : Heap) : Option (((Unit) × Heap) ⊕ ((Bool × Unit) × Heap)) :=
  loopT (fun a => f_wicketlaw16_BufferPlays_L47 n u2 p0 a.1.1 a.2) n ((0, ()), h39)
def f_wicketlaw16_BufferPlays_L65 (n : Nat) (p0 : ((Bool × Unit) × Heap)) (v54 : Int) (h55 : Heap) : Option (((Int × Unit) × Heap) ⊕ (((Unit) × Heap) ⊕ ((Bool × Unit) × Heap))) :=
  (ldT .any h55 (some (fa (nwA p0.2) 4))).bind fun x56 =>
  (lenB x56).bind fun n57 =>
  bif (decide (v54 < (n57 : Int))) then
    ((ldT .any h55 (some (fa (nwA p0.2) 4))).bind fun x58 =>
    (ixB 1 x58 v54).bind fun q59 =>
    (ldT .any h55 (some q59)).bind fun x60 =>
    (ldT .any h55 (some (fa (nwA p0.2) 5))).bind fun x61 =>
    (ixB 1 x61 v54).bind fun q62 =>
    (ldT .any h55 (some q62)).bind fun x63 =>
    (f_wicketref16_Same n x60 x63 h55).bind fun p64 =>
    bif (!p64.1.1) then
      (some (.inr (.inr ((false, ()), p64.2))))
    else
      (some (.inl (((IntKind.i64.wrap (v54 + 1)), ()), p64.2))))
  else
    (some (.inr (.inl ((), h55))))
def f_wicketlaw16_BufferPlays_C66 (n : Nat) (p0 : ((Bool × Unit) × Heap)) (h53 : Heap) : Option (((Unit) × Heap) ⊕ ((Bool × Unit) × Heap)) :=
  loopT (fun a => f_wicketlaw16_BufferPlays_L65 n p0 a.1.1 a.2) n ((0, ()), h53)
noncomputable def sf_wicketlaw16_BufferPlays (n : Nat) : Sf := sfOf [(k_wicketlaw16_awake, s_wicketlaw16_awake n), (k_wicketlaw05_Roomy, s_wicketlaw05_Roomy n), (k_buffer_New, s_buffer_New n), (k_wicketref16_New, s_wicketref16_New n), (k_wicketlaw05_Held, s_wicketlaw05_Held n), (k_wicketlaw16_pair_plays, s_wicketlaw16_pair_plays n), (k_wicketlaw16_pair_told, s_wicketlaw16_pair_told n), (k_wicketref16_Same, s_wicketref16_Same n), (k_wicketlaw16_Apart, s_wicketlaw16_Apart n), (k_wicketlaw05_Apart, s_wicketlaw05_Apart n)]
noncomputable def it_wicketlaw16_BufferPlays (n : Nat) : It := itOf []
def f_wicketlaw16_BufferPlays (n : Nat) (u0 : Value) (u1 : Value) (u2 : Value) (h : Heap) : Option ((Bool × Unit) × Heap) :=
  (f_wicketlaw16_awake n h).bind fun p0 =>
  bif (!p0.1.1) then
    (some ((false, ()), p0.2))
  else
    ((fillL [(.pointer none), (.pointer none), (.pointer none), (.pointer none), (.slice none 0 0), (.slice none 0 0), (.slice none 0 0)] []).bind fun cs1 =>
    bif (cs1 : List Value).all isCell then
      (bnd ((Heap.new p0.2 (.cells cs1 false 0))) fun h2 =>
      thenB (f_wicketlaw16_BufferPlays_C37 n u1 u0 p0 (h2)) fun a38 =>
      thenB (f_wicketlaw16_BufferPlays_C48 n u2 p0 (a38.2)) fun a49 =>
      (((f_wicketlaw16_pair_told n (some (nwA p0.2)) 0 a49.2).bind fun p50 =>
        bif (!p50.1.1) then
          (some ((true, ()), p50.2))
        else
          ((f_wicketlaw16_pair_told n (some (nwA p0.2)) 1 p50.2).bind fun p51 =>
          some (((!p51.1.1), ()), p51.2))) : Option ((Bool × Unit) × Heap)).bind fun a52 =>
      bif a52.1.1 then
        (some ((false, ()), a52.2))
      else
        (thenB (f_wicketlaw16_BufferPlays_C66 n p0 (a52.2)) fun a67 =>
        (((ldT .any a67.2 (some (fa (nwA p0.2) 4))).bind fun x68 =>
          (f_wicketlaw16_Apart n x68 a67.2).bind fun p69 =>
          bif (!p69.1.1) then
            (some ((true, ()), p69.2))
          else
            ((ldT .any p69.2 (some (fa (nwA p0.2) 6))).bind fun x70 =>
            (f_wicketlaw05_Apart n x70 p69.2).bind fun p71 =>
            some (((!p71.1.1), ()), p71.2))) : Option ((Bool × Unit) × Heap)).bind fun a72 =>
        bif a72.1.1 then
          (some ((false, ()), a72.2))
        else
          ((f_wicketlaw16_pair_told n (some (nwA p0.2)) 0 a72.2).bind fun p73 =>
          bif p73.1.1 then
            ((f_wicketlaw16_pair_told n (some (nwA p0.2)) 1 p73.2).bind fun p74 =>
            some ((p74.1.1, ()), p74.2))
          else
            (some ((false, ()), p73.2)))))
    else
      (none))
def rs_wicketlaw16_BufferPlays : Rs := [(.tmp 6, .bool)]
def ps_wicketlaw16_BufferPlays : List Ty := [.any, .any, .any]
theorem e_wicketlaw16_BufferPlays (n : Nat) (u0 : Value) (u1 : Value) (u2 : Value) (h : Heap) : f_wicketlaw16_BufferPlays n u0 u1 u2 h = fB (sf_wicketlaw16_BufferPlays n) (it_wicketlaw16_BufferPlays n) n c2_wicketlaw16_BufferPlays rs_wicketlaw16_BufferPlays ps_wicketlaw16_BufferPlays (u0, (u1, (u2, ()))) h := by kernel_rfl
noncomputable def s_wicketlaw16_BufferPlays (n : Nat) : Sf1 := mkSf ps_wicketlaw16_BufferPlays rs_wicketlaw16_BufferPlays fun a h => f_wicketlaw16_BufferPlays n a.1 a.2.1 a.2.2.1 h

/-- The table holds these. -/
structure LfT (T : Nat → Option AFun) : Prop where
  t_wicketlaw16_awake : PrimT_wicketlaw16_awake T
  t_maps_Clone_map_int_api_Value_int_api_Value : PrimT_maps_Clone_map_int_api_Value_int_api_Value T
  t_wicketref16_Same : T k_wicketref16_Same = some ⟨List.map (·.1) rs_wicketref16_Same, C2.erase c2_wicketref16_Same, none⟩
  t_wicketlaw16_Apart : T k_wicketlaw16_Apart = some ⟨List.map (·.1) rs_wicketlaw16_Apart, C2.erase c2_wicketlaw16_Apart, none⟩
  t_wicketlaw05_Apart : T k_wicketlaw05_Apart = some ⟨List.map (·.1) rs_wicketlaw05_Apart, C2.erase c2_wicketlaw05_Apart, none⟩
  t_buffer_Buffer_Len : T k_buffer_Buffer_Len = some ⟨List.map (·.1) rs_buffer_Buffer_Len, C2.erase c2_buffer_Buffer_Len, none⟩
  t_buffer_Buffer_Images : T k_buffer_Buffer_Images = some ⟨List.map (·.1) rs_buffer_Buffer_Images, C2.erase c2_buffer_Buffer_Images, none⟩
  t_wicketlaw05_Own : T k_wicketlaw05_Own = some ⟨List.map (·.1) rs_wicketlaw05_Own, C2.erase c2_wicketlaw05_Own, none⟩
  t_blocks_Is : T k_blocks_Is = some ⟨List.map (·.1) rs_blocks_Is, C2.erase c2_blocks_Is, none⟩
  t_slices_Clone_int_int : T k_slices_Clone_int_int = some ⟨List.map (·.1) rs_slices_Clone_int_int, C2.erase c2_slices_Clone_int_int, none⟩
  t_wicketref05_Is : T k_wicketref05_Is = some ⟨List.map (·.1) rs_wicketref05_Is, C2.erase c2_wicketref05_Is, none⟩
  t_wicketref05_Same : T k_wicketref05_Same = some ⟨List.map (·.1) rs_wicketref05_Same, C2.erase c2_wicketref05_Same, none⟩
  t_buffer_Buffer_Copy : T k_buffer_Buffer_Copy = some ⟨List.map (·.1) rs_buffer_Buffer_Copy, C2.erase c2_buffer_Buffer_Copy, none⟩
  t_wicketref16_Buffer_Copy : T k_wicketref16_Buffer_Copy = some ⟨List.map (·.1) rs_wicketref16_Buffer_Copy, C2.erase c2_wicketref16_Buffer_Copy, none⟩
  t_buffer_Buffer_Form : T k_buffer_Buffer_Form = some ⟨List.map (·.1) rs_buffer_Buffer_Form, C2.erase c2_buffer_Buffer_Form, none⟩
  t_wicketref05_Has : T k_wicketref05_Has = some ⟨List.map (·.1) rs_wicketref05_Has, C2.erase c2_wicketref05_Has, none⟩
  t_slices_Index_int_int : T k_slices_Index_int_int = some ⟨List.map (·.1) rs_slices_Index_int_int, C2.erase c2_slices_Index_int_int, none⟩
  t_wicketlaw05_Roomy : T k_wicketlaw05_Roomy = some ⟨List.map (·.1) rs_wicketlaw05_Roomy, C2.erase c2_wicketlaw05_Roomy, none⟩
  t_buffer_New : T k_buffer_New = some ⟨List.map (·.1) rs_buffer_New, C2.erase c2_buffer_New, none⟩
  t_wicketref16_New : T k_wicketref16_New = some ⟨List.map (·.1) rs_wicketref16_New, C2.erase c2_wicketref16_New, none⟩
  t_wicketlaw05_Held : T k_wicketlaw05_Held = some ⟨List.map (·.1) rs_wicketlaw05_Held, C2.erase c2_wicketlaw05_Held, none⟩
  t_wicketref16_Buffer_Write : T k_wicketref16_Buffer_Write = some ⟨List.map (·.1) rs_wicketref16_Buffer_Write, C2.erase c2_wicketref16_Buffer_Write, none⟩
  t_wicketref16_Buffer_Read : T k_wicketref16_Buffer_Read = some ⟨List.map (·.1) rs_wicketref16_Buffer_Read, C2.erase c2_wicketref16_Buffer_Read, none⟩
  t_wicketref16_Buffer_Images : T k_wicketref16_Buffer_Images = some ⟨List.map (·.1) rs_wicketref16_Buffer_Images, C2.erase c2_wicketref16_Buffer_Images, none⟩
  t_slices_Contains_int_int : T k_slices_Contains_int_int = some ⟨List.map (·.1) rs_slices_Contains_int_int, C2.erase c2_slices_Contains_int_int, none⟩
  t_wicketlaw16_pair_told : T k_wicketlaw16_pair_told = some ⟨List.map (·.1) rs_wicketlaw16_pair_told, C2.erase c2_wicketlaw16_pair_told, none⟩
  t_blocks_Has : T k_blocks_Has = some ⟨List.map (·.1) rs_blocks_Has, C2.erase c2_blocks_Has, none⟩
  t_buffer_Buffer_refused : T k_buffer_Buffer_refused = some ⟨List.map (·.1) rs_buffer_Buffer_refused, C2.erase c2_buffer_Buffer_refused, none⟩
  t_buffer_Buffer_Write : T k_buffer_Buffer_Write = some ⟨List.map (·.1) rs_buffer_Buffer_Write, C2.erase c2_buffer_Buffer_Write, none⟩
  t_buffer_Buffer_Read : T k_buffer_Buffer_Read = some ⟨List.map (·.1) rs_buffer_Buffer_Read, C2.erase c2_buffer_Buffer_Read, none⟩
  t_wicketlaw16_pair_plays : T k_wicketlaw16_pair_plays = some ⟨List.map (·.1) rs_wicketlaw16_pair_plays, C2.erase c2_wicketlaw16_pair_plays, none⟩
  t_wicketlaw16_BufferPlays : T k_wicketlaw16_BufferPlays = some ⟨List.map (·.1) rs_wicketlaw16_BufferPlays, C2.erase c2_wicketlaw16_BufferPlays, none⟩
variable {T : Nat → Option AFun}
theorem ok_wicketlaw16_awake (hT : LfT T) (n : Nat) : Sf1Ok T k_wicketlaw16_awake (s_wicketlaw16_awake n) := primOk_wicketlaw16_awake hT.t_wicketlaw16_awake n
theorem ok_maps_Clone_map_int_api_Value_int_api_Value (hT : LfT T) (n : Nat) : Sf1Ok T k_maps_Clone_map_int_api_Value_int_api_Value (s_maps_Clone_map_int_api_Value_int_api_Value n) := primOk_maps_Clone_map_int_api_Value_int_api_Value hT.t_maps_Clone_map_int_api_Value_int_api_Value n
theorem ok_wicketref16_Same (hT : LfT T) (n : Nat) : Sf1Ok T k_wicketref16_Same (s_wicketref16_Same n) := mkSf_ok (sf := sf_wicketref16_Same n) (it := it_wicketref16_Same n) (n := n) hT.t_wicketref16_Same sfOk_nil itOk_nil fun a h => e_wicketref16_Same n a.1 a.2.1 h
theorem ok_wicketlaw16_Apart (hT : LfT T) (n : Nat) : Sf1Ok T k_wicketlaw16_Apart (s_wicketlaw16_Apart n) := mkSf_ok (sf := sf_wicketlaw16_Apart n) (it := it_wicketlaw16_Apart n) (n := n) hT.t_wicketlaw16_Apart sfOk_nil itOk_nil fun a h => e_wicketlaw16_Apart n a.1 h
theorem ok_wicketlaw05_Apart (hT : LfT T) (n : Nat) : Sf1Ok T k_wicketlaw05_Apart (s_wicketlaw05_Apart n) := mkSf_ok (sf := sf_wicketlaw05_Apart n) (it := it_wicketlaw05_Apart n) (n := n) hT.t_wicketlaw05_Apart sfOk_nil itOk_nil fun a h => e_wicketlaw05_Apart n a.1 h
theorem ok_buffer_Buffer_Len (hT : LfT T) (n : Nat) : Sf1Ok T k_buffer_Buffer_Len (s_buffer_Buffer_Len n) := mkSf_ok (sf := sf_buffer_Buffer_Len n) (it := it_buffer_Buffer_Len n) (n := n) hT.t_buffer_Buffer_Len sfOk_nil itOk_nil fun a h => e_buffer_Buffer_Len n a.1 h
theorem ok_buffer_Buffer_Images (hT : LfT T) (n : Nat) : Sf1Ok T k_buffer_Buffer_Images (s_buffer_Buffer_Images n) := mkSf_ok (sf := sf_buffer_Buffer_Images n) (it := it_buffer_Buffer_Images n) (n := n) hT.t_buffer_Buffer_Images sfOk_nil itOk_nil fun a h => e_buffer_Buffer_Images n a.1 h
theorem ok_wicketlaw05_Own (hT : LfT T) (n : Nat) : Sf1Ok T k_wicketlaw05_Own (s_wicketlaw05_Own n) := mkSf_ok (sf := sf_wicketlaw05_Own n) (it := it_wicketlaw05_Own n) (n := n) hT.t_wicketlaw05_Own sfOk_nil itOk_nil fun a h => e_wicketlaw05_Own n a.1 h
theorem ok_blocks_Is (hT : LfT T) (n : Nat) : Sf1Ok T k_blocks_Is (s_blocks_Is n) := mkSf_ok (sf := sf_blocks_Is n) (it := it_blocks_Is n) (n := n) hT.t_blocks_Is sfOk_nil itOk_nil fun a h => e_blocks_Is n a.1 h
theorem ok_slices_Clone_int_int (hT : LfT T) (n : Nat) : Sf1Ok T k_slices_Clone_int_int (s_slices_Clone_int_int n) := mkSf_ok (sf := sf_slices_Clone_int_int n) (it := it_slices_Clone_int_int n) (n := n) hT.t_slices_Clone_int_int sfOk_nil itOk_nil fun a h => e_slices_Clone_int_int n a.1 h
theorem ok_wicketref05_Is (hT : LfT T) (n : Nat) : Sf1Ok T k_wicketref05_Is (s_wicketref05_Is n) := mkSf_ok (sf := sf_wicketref05_Is n) (it := it_wicketref05_Is n) (n := n) hT.t_wicketref05_Is sfOk_nil itOk_nil fun a h => e_wicketref05_Is n a.1 h
theorem ok_wicketref05_Same (hT : LfT T) (n : Nat) : Sf1Ok T k_wicketref05_Same (s_wicketref05_Same n) := mkSf_ok (sf := sf_wicketref05_Same n) (it := it_wicketref05_Same n) (n := n) hT.t_wicketref05_Same sfOk_nil itOk_nil fun a h => e_wicketref05_Same n a.1 a.2.1 h
theorem ok_buffer_Buffer_Copy (hT : LfT T) (n : Nat) : Sf1Ok T k_buffer_Buffer_Copy (s_buffer_Buffer_Copy n) := mkSf_ok (sf := sf_buffer_Buffer_Copy n) (it := it_buffer_Buffer_Copy n) (n := n) hT.t_buffer_Buffer_Copy (sfOk_cons (ok_slices_Clone_int_int hT n) (sfOk_cons (ok_maps_Clone_map_int_api_Value_int_api_Value hT n) sfOk_nil)) itOk_nil fun a h => e_buffer_Buffer_Copy n a.1 h
theorem ok_wicketref16_Buffer_Copy (hT : LfT T) (n : Nat) : Sf1Ok T k_wicketref16_Buffer_Copy (s_wicketref16_Buffer_Copy n) := mkSf_ok (sf := sf_wicketref16_Buffer_Copy n) (it := it_wicketref16_Buffer_Copy n) (n := n) hT.t_wicketref16_Buffer_Copy sfOk_nil itOk_nil fun a h => e_wicketref16_Buffer_Copy n a.1 h
theorem ok_buffer_Buffer_Form (hT : LfT T) (n : Nat) : Sf1Ok T k_buffer_Buffer_Form (s_buffer_Buffer_Form n) := mkSf_ok (sf := sf_buffer_Buffer_Form n) (it := it_buffer_Buffer_Form n) (n := n) hT.t_buffer_Buffer_Form (sfOk_cons (ok_slices_Clone_int_int hT n) sfOk_nil) itOk_nil fun a h => e_buffer_Buffer_Form n a.1 h
theorem ok_wicketref05_Has (hT : LfT T) (n : Nat) : Sf1Ok T k_wicketref05_Has (s_wicketref05_Has n) := mkSf_ok (sf := sf_wicketref05_Has n) (it := it_wicketref05_Has n) (n := n) hT.t_wicketref05_Has sfOk_nil itOk_nil fun a h => e_wicketref05_Has n a.1 a.2.1 h
theorem ok_slices_Index_int_int (hT : LfT T) (n : Nat) : Sf1Ok T k_slices_Index_int_int (s_slices_Index_int_int n) := mkSf_ok (sf := sf_slices_Index_int_int n) (it := it_slices_Index_int_int n) (n := n) hT.t_slices_Index_int_int sfOk_nil itOk_nil fun a h => e_slices_Index_int_int n a.1 a.2.1 h
theorem ok_wicketlaw05_Roomy (hT : LfT T) (n : Nat) : Sf1Ok T k_wicketlaw05_Roomy (s_wicketlaw05_Roomy n) := mkSf_ok (sf := sf_wicketlaw05_Roomy n) (it := it_wicketlaw05_Roomy n) (n := n) hT.t_wicketlaw05_Roomy (sfOk_cons (ok_wicketlaw05_Own hT n) sfOk_nil) itOk_nil fun a h => e_wicketlaw05_Roomy n a.1 h
theorem ok_buffer_New (hT : LfT T) (n : Nat) : Sf1Ok T k_buffer_New (s_buffer_New n) := mkSf_ok (sf := sf_buffer_New n) (it := it_buffer_New n) (n := n) hT.t_buffer_New (sfOk_cons (ok_blocks_Is hT n) (sfOk_cons (ok_slices_Clone_int_int hT n) sfOk_nil)) itOk_nil fun a h => e_buffer_New n a.1 h
theorem ok_wicketref16_New (hT : LfT T) (n : Nat) : Sf1Ok T k_wicketref16_New (s_wicketref16_New n) := mkSf_ok (sf := sf_wicketref16_New n) (it := it_wicketref16_New n) (n := n) hT.t_wicketref16_New (sfOk_cons (ok_wicketref05_Is hT n) sfOk_nil) itOk_nil fun a h => e_wicketref16_New n a.1 h
theorem ok_wicketlaw05_Held (hT : LfT T) (n : Nat) : Sf1Ok T k_wicketlaw05_Held (s_wicketlaw05_Held n) := mkSf_ok (sf := sf_wicketlaw05_Held n) (it := it_wicketlaw05_Held n) (n := n) hT.t_wicketlaw05_Held (sfOk_cons (ok_wicketref05_Same hT n) sfOk_nil) itOk_nil fun a h => e_wicketlaw05_Held n a.1 a.2.1 h
theorem ok_wicketref16_Buffer_Write (hT : LfT T) (n : Nat) : Sf1Ok T k_wicketref16_Buffer_Write (s_wicketref16_Buffer_Write n) := mkSf_ok (sf := sf_wicketref16_Buffer_Write n) (it := it_wicketref16_Buffer_Write n) (n := n) hT.t_wicketref16_Buffer_Write (sfOk_cons (ok_wicketref05_Has hT n) sfOk_nil) itOk_nil fun a h => e_wicketref16_Buffer_Write n a.1 a.2.1 a.2.2.1 h
theorem ok_wicketref16_Buffer_Read (hT : LfT T) (n : Nat) : Sf1Ok T k_wicketref16_Buffer_Read (s_wicketref16_Buffer_Read n) := mkSf_ok (sf := sf_wicketref16_Buffer_Read n) (it := it_wicketref16_Buffer_Read n) (n := n) hT.t_wicketref16_Buffer_Read (sfOk_cons (ok_wicketref05_Has hT n) sfOk_nil) itOk_nil fun a h => e_wicketref16_Buffer_Read n a.1 a.2.1 h
theorem ok_wicketref16_Buffer_Images (hT : LfT T) (n : Nat) : Sf1Ok T k_wicketref16_Buffer_Images (s_wicketref16_Buffer_Images n) := mkSf_ok (sf := sf_wicketref16_Buffer_Images n) (it := it_wicketref16_Buffer_Images n) (n := n) hT.t_wicketref16_Buffer_Images (sfOk_cons (ok_wicketref16_Buffer_Read hT n) sfOk_nil) itOk_nil fun a h => e_wicketref16_Buffer_Images n a.1 h
theorem ok_slices_Contains_int_int (hT : LfT T) (n : Nat) : Sf1Ok T k_slices_Contains_int_int (s_slices_Contains_int_int n) := mkSf_ok (sf := sf_slices_Contains_int_int n) (it := it_slices_Contains_int_int n) (n := n) hT.t_slices_Contains_int_int (sfOk_cons (ok_slices_Index_int_int hT n) sfOk_nil) itOk_nil fun a h => e_slices_Contains_int_int n a.1 a.2.1 h
theorem ok_wicketlaw16_pair_told (hT : LfT T) (n : Nat) : Sf1Ok T k_wicketlaw16_pair_told (s_wicketlaw16_pair_told n) := mkSf_ok (sf := sf_wicketlaw16_pair_told n) (it := it_wicketlaw16_pair_told n) (n := n) hT.t_wicketlaw16_pair_told (sfOk_cons (ok_buffer_Buffer_Images hT n) (sfOk_cons (ok_buffer_Buffer_Form hT n) (sfOk_cons (ok_wicketref16_Buffer_Images hT n) (sfOk_cons (ok_wicketref16_Same hT n) (sfOk_cons (ok_wicketref05_Same hT n) (sfOk_cons (ok_buffer_Buffer_Len hT n) sfOk_nil)))))) itOk_nil fun a h => e_wicketlaw16_pair_told n a.1 a.2.1 h
theorem ok_blocks_Has (hT : LfT T) (n : Nat) : Sf1Ok T k_blocks_Has (s_blocks_Has n) := mkSf_ok (sf := sf_blocks_Has n) (it := it_blocks_Has n) (n := n) hT.t_blocks_Has (sfOk_cons (ok_slices_Contains_int_int hT n) sfOk_nil) itOk_nil fun a h => e_blocks_Has n a.1 a.2.1 h
theorem ok_buffer_Buffer_refused (hT : LfT T) (n : Nat) : Sf1Ok T k_buffer_Buffer_refused (s_buffer_Buffer_refused n) := mkSf_ok (sf := sf_buffer_Buffer_refused n) (it := it_buffer_Buffer_refused n) (n := n) hT.t_buffer_Buffer_refused (sfOk_cons (ok_blocks_Has hT n) sfOk_nil) itOk_nil fun a h => e_buffer_Buffer_refused n a.1 a.2.1 h
theorem ok_buffer_Buffer_Write (hT : LfT T) (n : Nat) : Sf1Ok T k_buffer_Buffer_Write (s_buffer_Buffer_Write n) := mkSf_ok (sf := sf_buffer_Buffer_Write n) (it := it_buffer_Buffer_Write n) (n := n) hT.t_buffer_Buffer_Write (sfOk_cons (ok_buffer_Buffer_refused hT n) sfOk_nil) itOk_nil fun a h => e_buffer_Buffer_Write n a.1 a.2.1 a.2.2.1 h
theorem ok_buffer_Buffer_Read (hT : LfT T) (n : Nat) : Sf1Ok T k_buffer_Buffer_Read (s_buffer_Buffer_Read n) := mkSf_ok (sf := sf_buffer_Buffer_Read n) (it := it_buffer_Buffer_Read n) (n := n) hT.t_buffer_Buffer_Read (sfOk_cons (ok_buffer_Buffer_refused hT n) sfOk_nil) itOk_nil fun a h => e_buffer_Buffer_Read n a.1 a.2.1 h
theorem ok_wicketlaw16_pair_plays (hT : LfT T) (n : Nat) : Sf1Ok T k_wicketlaw16_pair_plays (s_wicketlaw16_pair_plays n) := mkSf_ok (sf := sf_wicketlaw16_pair_plays n) (it := it_wicketlaw16_pair_plays n) (n := n) hT.t_wicketlaw16_pair_plays (sfOk_cons (ok_buffer_Buffer_Write hT n) (sfOk_cons (ok_wicketref16_Buffer_Write hT n) (sfOk_cons (ok_buffer_Buffer_Read hT n) (sfOk_cons (ok_wicketref16_Buffer_Read hT n) (sfOk_cons (ok_wicketlaw16_pair_told hT n) (sfOk_cons (ok_buffer_Buffer_Copy hT n) (sfOk_cons (ok_wicketref16_Buffer_Copy hT n) sfOk_nil))))))) itOk_nil fun a h => e_wicketlaw16_pair_plays n a.1 a.2.1 h
theorem ok_wicketlaw16_BufferPlays (hT : LfT T) (n : Nat) : Sf1Ok T k_wicketlaw16_BufferPlays (s_wicketlaw16_BufferPlays n) := mkSf_ok (sf := sf_wicketlaw16_BufferPlays n) (it := it_wicketlaw16_BufferPlays n) (n := n) hT.t_wicketlaw16_BufferPlays (sfOk_cons (ok_wicketlaw16_awake hT n) (sfOk_cons (ok_wicketlaw05_Roomy hT n) (sfOk_cons (ok_buffer_New hT n) (sfOk_cons (ok_wicketref16_New hT n) (sfOk_cons (ok_wicketlaw05_Held hT n) (sfOk_cons (ok_wicketlaw16_pair_plays hT n) (sfOk_cons (ok_wicketlaw16_pair_told hT n) (sfOk_cons (ok_wicketref16_Same hT n) (sfOk_cons (ok_wicketlaw16_Apart hT n) (sfOk_cons (ok_wicketlaw05_Apart hT n) sfOk_nil)))))))))) itOk_nil fun a h => e_wicketlaw16_BufferPlays n a.1 a.2.1 a.2.2.1 h
end Go.Proofs.Ytpihoicfnolepaa
