/- The functions at hand as plain typed functions, each with the proof that it is what the abstract machine's code does. -/
import Derived.Test.YtebfdmecajomeaaPSort
import Derived.KernelRfl
namespace Go.Proofs.Ytebfdmecajomeaa
open Go
set_option linter.unusedVariables false
set_option maxRecDepth 100000
def k_wicketlaw05_awake : Nat := 4
def k_slices_Sort_int_int : Nat := 25
def k_wicketref05_Next : Nat := 6
def k_blocks_Next : Nat := 9
def k_wicketref05_Same : Nat := 10
def k_blocks_Is : Nat := 11
def k_wicketref05_Is : Nat := 12
def k_wicketref05_Has : Nat := 14
def k_wicketlaw05_Held : Nat := 15
def k_wicketlaw05_turn : Nat := 16
def k_wicketlaw05_Own : Nat := 17
def k_wicketlaw05_Apart : Nat := 18
def k_slices_Clone_int_int : Nat := 22
def k_slices_Clip_int_int : Nat := 26
def k_slices_Compact_int_int : Nat := 27
def k_slices_Index_int_int : Nat := 29
def k_wicketref05_Both : Nat := 5
def k_wicketlaw05_Roomy : Nat := 7
def k_blocks_rising : Nat := 20
def k_slices_Contains_int_int : Nat := 24
def k_blocks_Has : Nat := 13
def k_blocks_Both_1 : Nat := 23
def k_slices_IndexFunc_int_int : Nat := 28
def k_slices_DeleteFunc_int_int : Nat := 21
def k_blocks_Both : Nat := 8
def k_wicketlaw05_BlocksLists : Nat := 3

def f_wicketlaw05_awake (n : Nat) (h : Heap) : Option ((Bool × Unit) × Heap) := yesB h
noncomputable def s_wicketlaw05_awake (n : Nat) : Sf1 := mkSf [] [(.tmp 0, .bool)] fun a h => f_wicketlaw05_awake n h
def PrimT_wicketlaw05_awake (T : Nat → Option AFun) : Prop := T k_wicketlaw05_awake = some ⟨[], .skip, some yes⟩
theorem primOk_wicketlaw05_awake {T : Nat → Option AFun} (hT : PrimT_wicketlaw05_awake T) (n : Nat) : Sf1Ok T k_wicketlaw05_awake (s_wicketlaw05_awake n) := yes_sf hT

def f_slices_Sort_int_int (n : Nat) (u0 : Value) (h : Heap) : Option (Unit × Heap) := (sortB h u0).map fun h' => ((), h')
noncomputable def s_slices_Sort_int_int (n : Nat) : Sf1 := mkSf [.any] [] fun a h => f_slices_Sort_int_int n a.1 h
def PrimT_slices_Sort_int_int (T : Nat → Option AFun) : Prop := T k_slices_Sort_int_int = some ⟨[], .skip, some sortM⟩
theorem primOk_slices_Sort_int_int {T : Nat → Option AFun} (hT : PrimT_slices_Sort_int_int T) (n : Nat) : Sf1Ok T k_slices_Sort_int_int (s_slices_Sort_int_int n) := sort_sf hT

/- wicket/wicketref05.Next -/
def c2_wicketref05_Next : C2 :=
  .seq (.reg [(⟨(some 4), .move (.const (.int .i64 0)), none⟩, (.int .i64)),
      (⟨(some 5), .move (.const (.bool false)), none⟩, .bool)]) <|
  .seq (.seq (.cutn [(13, .bool)] <|
        .reg [(⟨(some 6), .move (.tmp 1), none⟩, (.int .i64)),
          (⟨(some 7), .bin .lss (.tmp 6) (.const (.int .i64 0)), none⟩, .bool),
          (⟨(some 8), .move (.tmp 7), none⟩, .bool),
          (⟨(some 9), .move (.tmp 1), some (8, false)⟩, (.int .i64)),
          (⟨(some 10), .move (.tmp 0), some (8, false)⟩, .any),
          (⟨(some 11), .lenS (.tmp 10), some (8, false)⟩, (.int .i64)),
          (⟨(some 12), .bin .geq (.tmp 9) (.tmp 11), some (8, false)⟩, .bool),
          (⟨(some 13), .pick (.tmp 8) (.const (.bool true)) (.tmp 12), none⟩, .bool)]) <|
    .cond (.tmp 13)
      (.seq (.reg [(⟨(some 4), .move (.const (.int .i64 0)), none⟩, (.int .i64)),
          (⟨(some 5), .move (.const (.bool false)), none⟩, .bool)]) <|
      .ret)
      (.skip)) <|
  .seq (.reg [(⟨(some 14), .move (.tmp 0), none⟩, .any),
      (⟨(some 15), .move (.tmp 1), none⟩, (.int .i64)),
      (⟨(some 16), .idxSlice 1 (.tmp 14) (.tmp 15), none⟩, .ptr),
      (⟨(some 17), .load false 1 (.tmp 16), none⟩, (.int .i64)),
      (⟨(some 4), .move (.tmp 17), none⟩, (.int .i64)),
      (⟨(some 5), .move (.const (.bool true)), none⟩, .bool)]) <|
  .ret
noncomputable def sf_wicketref05_Next (n : Nat) : Sf := sfOf []
noncomputable def it_wicketref05_Next (n : Nat) : It := itOf []
def f_wicketref05_Next (n : Nat) (u0 : Value) (u1 : Int) (h : Heap) : Option ((Int × Bool × Unit) × Heap) :=
  ((bif (decide (u1 < 0)) then
      (some ((true, ()), h))
    else
      ((lenB u0).bind fun n0 =>
      some (((decide ((n0 : Int) ≤ u1)), ()), h))) : Option ((Bool × Unit) × Heap)).bind fun a1 =>
  bif a1.1.1 then
    (some ((0, (false, ())), a1.2))
  else
    ((ixB 1 u0 u1).bind fun q2 =>
    (ldT (.int .i64) a1.2 (some q2)).bind fun x3 =>
    some ((x3, (true, ())), a1.2))
def rs_wicketref05_Next : Rs := [(.tmp 4, (.int .i64)), (.tmp 5, .bool)]
def ps_wicketref05_Next : List Ty := [.any, (.int .i64)]
theorem e_wicketref05_Next (n : Nat) (u0 : Value) (u1 : Int) (h : Heap) : f_wicketref05_Next n u0 u1 h = fB (sf_wicketref05_Next n) (it_wicketref05_Next n) n c2_wicketref05_Next rs_wicketref05_Next ps_wicketref05_Next (u0, (u1, ())) h := by kernel_rfl
noncomputable def s_wicketref05_Next (n : Nat) : Sf1 := mkSf ps_wicketref05_Next rs_wicketref05_Next fun a h => f_wicketref05_Next n a.1 a.2.1 h

/- wicket/blocks.Next -/
def c2_blocks_Next : C2 :=
  .seq (.reg [(⟨(some 4), .move (.const (.int .i64 0)), none⟩, (.int .i64)),
      (⟨(some 5), .move (.const (.bool false)), none⟩, .bool)]) <|
  .seq (.seq (.cutn [(13, .bool)] <|
        .reg [(⟨(some 6), .move (.tmp 1), none⟩, (.int .i64)),
          (⟨(some 7), .bin .lss (.tmp 6) (.const (.int .i64 0)), none⟩, .bool),
          (⟨(some 8), .move (.tmp 7), none⟩, .bool),
          (⟨(some 9), .move (.tmp 1), some (8, false)⟩, (.int .i64)),
          (⟨(some 10), .move (.tmp 0), some (8, false)⟩, .any),
          (⟨(some 11), .lenS (.tmp 10), some (8, false)⟩, (.int .i64)),
          (⟨(some 12), .bin .geq (.tmp 9) (.tmp 11), some (8, false)⟩, .bool),
          (⟨(some 13), .pick (.tmp 8) (.const (.bool true)) (.tmp 12), none⟩, .bool)]) <|
    .cond (.tmp 13)
      (.seq (.reg [(⟨(some 4), .move (.const (.int .i64 0)), none⟩, (.int .i64)),
          (⟨(some 5), .move (.const (.bool false)), none⟩, .bool)]) <|
      .ret)
      (.skip)) <|
  .seq (.reg [(⟨(some 14), .move (.tmp 0), none⟩, .any),
      (⟨(some 15), .move (.tmp 1), none⟩, (.int .i64)),
      (⟨(some 16), .idxSlice 1 (.tmp 14) (.tmp 15), none⟩, .ptr),
      (⟨(some 17), .load false 1 (.tmp 16), none⟩, (.int .i64)),
      (⟨(some 4), .move (.tmp 17), none⟩, (.int .i64)),
      (⟨(some 5), .move (.const (.bool true)), none⟩, .bool)]) <|
  .ret
noncomputable def sf_blocks_Next (n : Nat) : Sf := sfOf []
noncomputable def it_blocks_Next (n : Nat) : It := itOf []
def f_blocks_Next (n : Nat) (u0 : Value) (u1 : Int) (h : Heap) : Option ((Int × Bool × Unit) × Heap) :=
  ((bif (decide (u1 < 0)) then
      (some ((true, ()), h))
    else
      ((lenB u0).bind fun n0 =>
      some (((decide ((n0 : Int) ≤ u1)), ()), h))) : Option ((Bool × Unit) × Heap)).bind fun a1 =>
  bif a1.1.1 then
    (some ((0, (false, ())), a1.2))
  else
    ((ixB 1 u0 u1).bind fun q2 =>
    (ldT (.int .i64) a1.2 (some q2)).bind fun x3 =>
    some ((x3, (true, ())), a1.2))
def rs_blocks_Next : Rs := [(.tmp 4, (.int .i64)), (.tmp 5, .bool)]
def ps_blocks_Next : List Ty := [.any, (.int .i64)]
theorem e_blocks_Next (n : Nat) (u0 : Value) (u1 : Int) (h : Heap) : f_blocks_Next n u0 u1 h = fB (sf_blocks_Next n) (it_blocks_Next n) n c2_blocks_Next rs_blocks_Next ps_blocks_Next (u0, (u1, ())) h := by kernel_rfl
noncomputable def s_blocks_Next (n : Nat) : Sf1 := mkSf ps_blocks_Next rs_blocks_Next fun a h => f_blocks_Next n a.1 a.2.1 h

/- wicket/wicketref05.Same -/
def c2_wicketref05_Same : C2 :=
  .seq (.reg [(⟨(some 4), .move (.const (.bool false)), none⟩, .bool)]) <|
  .seq (.seq (.reg [(⟨(some 6), .move (.tmp 0), none⟩, .any),
        (⟨(some 7), .lenS (.tmp 6), none⟩, (.int .i64)),
        (⟨(some 8), .move (.tmp 1), none⟩, .any),
        (⟨(some 9), .lenS (.tmp 8), none⟩, (.int .i64)),
        (⟨(some 10), .bin .neq (.tmp 7) (.tmp 9), none⟩, .bool)]) <|
    .cond (.tmp 10)
      (.seq (.reg [(⟨(some 4), .move (.const (.bool false)), none⟩, .bool)]) <|
      .ret)
      (.skip)) <|
  .seq (.seq (.reg [(⟨(some 5), .move (.const (.int .i64 0)), none⟩, (.int .i64))]) <|
    .block 0 <|
      .loop [(5, (.int .i64))] <|
        .seq (.seq (.reg [(⟨(some 11), .move (.tmp 5), none⟩, (.int .i64)),
              (⟨(some 12), .move (.tmp 0), none⟩, .any),
              (⟨(some 13), .lenS (.tmp 12), none⟩, (.int .i64)),
              (⟨(some 14), .bin .lss (.tmp 11) (.tmp 13), none⟩, .bool)]) <|
          .cond (.tmp 14)
            (.skip)
            (.exit 0)) <|
        .seq (.block 1 <|
            .seq (.regd [(⟨0, [], false, ⟨(some 17), .move (.tmp 0), none⟩⟩, .any),
                (⟨1, [], false, ⟨(some 18), .move (.tmp 5), none⟩⟩, (.int .i64)),
                (⟨2, [0, 1], false, ⟨(some 19), .idxSlice 1 (.tmp 17) (.tmp 18), none⟩⟩, .ptr),
                (⟨3, [2, 0, 1], false, ⟨(some 20), .load false 1 (.tmp 19), none⟩⟩, (.int .i64)),
                (⟨4, [], false, ⟨(some 21), .move (.tmp 1), none⟩⟩, .any),
                (⟨5, [], false, ⟨(some 22), .move (.tmp 5), none⟩⟩, (.int .i64)),
                (⟨6, [4, 5], false, ⟨(some 23), .idxSlice 1 (.tmp 21) (.tmp 22), none⟩⟩, .ptr),
                (⟨7, [6, 4, 5], false, ⟨(some 24), .load false 1 (.tmp 23), none⟩⟩, (.int .i64)),
                (⟨8, [3, 7, 2, 0, 1, 6, 4, 5], false, ⟨(some 25), .bin .neq (.tmp 20) (.tmp 24), none⟩⟩, .bool)]) <|
            .cond (.tmp 25)
              (.seq (.reg [(⟨(some 4), .move (.const (.bool false)), none⟩, .bool)]) <|
              .ret)
              (.skip)) <|
        .reg [(⟨(some 15), .move (.tmp 5), none⟩, (.int .i64)),
          (⟨(some 16), .bin .add (.tmp 15) (.const (.int .i64 1)), none⟩, (.int .i64)),
          (⟨(some 5), .move (.tmp 16), none⟩, (.int .i64))]) <|
  .seq (.reg [(⟨(some 4), .move (.const (.bool true)), none⟩, .bool)]) <|
  .ret
def f_wicketref05_Same_L9 (n : Nat) (u1 : Value) (u0 : Value) (v2 : Int) (h3 : Heap) : Option (((Int × Unit) × Heap) ⊕ ((Bool × Unit) × Heap)) :=
  (lenB u0).bind fun n4 =>
  bif (decide (v2 < (n4 : Int))) then
    ((ixB 1 u0 v2).bind fun q5 =>
    (ldT (.int .i64) h3 (some q5)).bind fun x6 =>
    (ixB 1 u1 v2).bind fun q7 =>
    (ldT (.int .i64) h3 (some q7)).bind fun x8 =>
    bif (!decide (x6 = x8)) then
      (some (.inr ((false, ()), h3)))
    else
      (some (.inl (((IntKind.i64.wrap (v2 + 1)), ()), h3))))
  else
    (some (.inr ((true, ()), h3)))
noncomputable def sf_wicketref05_Same (n : Nat) : Sf := sfOf []
noncomputable def it_wicketref05_Same (n : Nat) : It := itOf []
def f_wicketref05_Same (n : Nat) (u0 : Value) (u1 : Value) (h : Heap) : Option ((Bool × Unit) × Heap) :=
  (lenB u0).bind fun n0 =>
  (lenB u1).bind fun n1 =>
  bif (!decide ((n0 : Int) = (n1 : Int))) then
    (some ((false, ()), h))
  else
    (loopT (fun a => f_wicketref05_Same_L9 n u1 u0 a.1.1 a.2) n ((0, ()), h))
def rs_wicketref05_Same : Rs := [(.tmp 4, .bool)]
def ps_wicketref05_Same : List Ty := [.any, .any]
theorem e_wicketref05_Same (n : Nat) (u0 : Value) (u1 : Value) (h : Heap) : f_wicketref05_Same n u0 u1 h = fB (sf_wicketref05_Same n) (it_wicketref05_Same n) n c2_wicketref05_Same rs_wicketref05_Same ps_wicketref05_Same (u0, (u1, ())) h := by kernel_rfl
noncomputable def s_wicketref05_Same (n : Nat) : Sf1 := mkSf ps_wicketref05_Same rs_wicketref05_Same fun a h => f_wicketref05_Same n a.1 a.2.1 h

/- wicket/blocks.Is -/
def c2_blocks_Is : C2 :=
  .seq (.reg [(⟨(some 2), .move (.const (.bool false)), none⟩, .bool)]) <|
  .seq (.seq (.cutn [(26, .bool)] <|
        .reg [(⟨(some 4), .move (.tmp 0), none⟩, .any),
          (⟨(some 5), .lenS (.tmp 4), none⟩, (.int .i64)),
          (⟨(some 6), .bin .lss (.tmp 5) (.const (.int .i64 1)), none⟩, .bool),
          (⟨(some 7), .move (.tmp 6), none⟩, .bool),
          (⟨(some 8), .move (.tmp 0), some (7, false)⟩, .any),
          (⟨(some 9), .lenS (.tmp 8), some (7, false)⟩, (.int .i64)),
          (⟨(some 10), .bin .gtr (.tmp 9) (.const (.int .i64 16)), some (7, false)⟩, .bool),
          (⟨(some 11), .pick (.tmp 7) (.const (.bool true)) (.tmp 10), none⟩, .bool),
          (⟨(some 12), .move (.tmp 11), none⟩, .bool),
          (⟨(some 13), .move (.tmp 0), some (12, false)⟩, .any),
          (⟨(some 14), .idxSlice 1 (.tmp 13) (.const (.int .i64 0)), some (12, false)⟩, .ptr),
          (⟨(some 15), .load false 1 (.tmp 14), some (12, false)⟩, (.int .i64)),
          (⟨(some 16), .bin .lss (.tmp 15) (.const (.int .i64 0)), some (12, false)⟩, .bool),
          (⟨(some 17), .pick (.tmp 12) (.const (.bool true)) (.tmp 16), none⟩, .bool),
          (⟨(some 18), .move (.tmp 17), none⟩, .bool),
          (⟨(some 19), .move (.tmp 0), some (18, false)⟩, .any),
          (⟨(some 20), .move (.tmp 0), some (18, false)⟩, .any),
          (⟨(some 21), .lenS (.tmp 20), some (18, false)⟩, (.int .i64)),
          (⟨(some 22), .bin .sub (.tmp 21) (.const (.int .i64 1)), some (18, false)⟩, (.int .i64)),
          (⟨(some 23), .idxSlice 1 (.tmp 19) (.tmp 22), some (18, false)⟩, .ptr),
          (⟨(some 24), .load false 1 (.tmp 23), some (18, false)⟩, (.int .i64)),
          (⟨(some 25), .bin .geq (.tmp 24) (.const (.int .i64 64)), some (18, false)⟩, .bool),
          (⟨(some 26), .pick (.tmp 18) (.const (.bool true)) (.tmp 25), none⟩, .bool)]) <|
    .cond (.tmp 26)
      (.seq (.reg [(⟨(some 2), .move (.const (.bool false)), none⟩, .bool)]) <|
      .ret)
      (.skip)) <|
  .seq (.seq (.reg [(⟨(some 3), .move (.const (.int .i64 1)), none⟩, (.int .i64))]) <|
    .block 0 <|
      .loop [(3, (.int .i64))] <|
        .seq (.seq (.reg [(⟨(some 27), .move (.tmp 3), none⟩, (.int .i64)),
              (⟨(some 28), .move (.tmp 0), none⟩, .any),
              (⟨(some 29), .lenS (.tmp 28), none⟩, (.int .i64)),
              (⟨(some 30), .bin .lss (.tmp 27) (.tmp 29), none⟩, .bool)]) <|
          .cond (.tmp 30)
            (.skip)
            (.exit 0)) <|
        .seq (.block 1 <|
            .seq (.regd [(⟨0, [], false, ⟨(some 33), .move (.tmp 0), none⟩⟩, .any),
                (⟨1, [], false, ⟨(some 34), .move (.tmp 3), none⟩⟩, (.int .i64)),
                (⟨2, [0, 1], false, ⟨(some 35), .idxSlice 1 (.tmp 33) (.tmp 34), none⟩⟩, .ptr),
                (⟨3, [2, 0, 1], false, ⟨(some 36), .load false 1 (.tmp 35), none⟩⟩, (.int .i64)),
                (⟨4, [], false, ⟨(some 37), .move (.tmp 0), none⟩⟩, .any),
                (⟨5, [], false, ⟨(some 38), .move (.tmp 3), none⟩⟩, (.int .i64)),
                (⟨6, [5], false, ⟨(some 39), .bin .sub (.tmp 38) (.const (.int .i64 1)), none⟩⟩, (.int .i64)),
                (⟨7, [4, 6, 5], false, ⟨(some 40), .idxSlice 1 (.tmp 37) (.tmp 39), none⟩⟩, .ptr),
                (⟨8, [7, 4, 6, 5], false, ⟨(some 41), .load false 1 (.tmp 40), none⟩⟩, (.int .i64)),
                (⟨9, [3, 8, 2, 0, 1, 7, 4, 6, 5], false, ⟨(some 42), .bin .leq (.tmp 36) (.tmp 41), none⟩⟩, .bool)]) <|
            .cond (.tmp 42)
              (.seq (.reg [(⟨(some 2), .move (.const (.bool false)), none⟩, .bool)]) <|
              .ret)
              (.skip)) <|
        .reg [(⟨(some 31), .move (.tmp 3), none⟩, (.int .i64)),
          (⟨(some 32), .bin .add (.tmp 31) (.const (.int .i64 1)), none⟩, (.int .i64)),
          (⟨(some 3), .move (.tmp 32), none⟩, (.int .i64))]) <|
  .seq (.reg [(⟨(some 2), .move (.const (.bool true)), none⟩, .bool)]) <|
  .ret
def f_blocks_Is_L15 (n : Nat) (u0 : Value) (v8 : Int) (h9 : Heap) : Option (((Int × Unit) × Heap) ⊕ ((Bool × Unit) × Heap)) :=
  (lenB u0).bind fun n10 =>
  bif (decide (v8 < (n10 : Int))) then
    ((ixB 1 u0 v8).bind fun q11 =>
    (ldT (.int .i64) h9 (some q11)).bind fun x12 =>
    (ixB 1 u0 (IntKind.i64.wrap (v8 - 1))).bind fun q13 =>
    (ldT (.int .i64) h9 (some q13)).bind fun x14 =>
    bif (decide (x12 ≤ x14)) then
      (some (.inr ((false, ()), h9)))
    else
      (some (.inl (((IntKind.i64.wrap (v8 + 1)), ()), h9))))
  else
    (some (.inr ((true, ()), h9)))
noncomputable def sf_blocks_Is (n : Nat) : Sf := sfOf []
noncomputable def it_blocks_Is (n : Nat) : It := itOf []
def f_blocks_Is (n : Nat) (u0 : Value) (h : Heap) : Option ((Bool × Unit) × Heap) :=
  (((lenB u0).bind fun n0 =>
    bif (decide ((n0 : Int) < 1)) then
      (some ((true, ()), h))
    else
      ((lenB u0).bind fun n1 =>
      bif (decide (16 < (n1 : Int))) then
        (some ((true, ()), h))
      else
        ((ixB 1 u0 0).bind fun q2 =>
        (ldT (.int .i64) h (some q2)).bind fun x3 =>
        bif (decide (x3 < 0)) then
          (some ((true, ()), h))
        else
          ((lenB u0).bind fun n4 =>
          (ixB 1 u0 (IntKind.i64.wrap ((n4 : Int) - 1))).bind fun q5 =>
          (ldT (.int .i64) h (some q5)).bind fun x6 =>
          some (((decide (64 ≤ x6)), ()), h))))) : Option ((Bool × Unit) × Heap)).bind fun a7 =>
  bif a7.1.1 then
    (some ((false, ()), a7.2))
  else
    (loopT (fun a => f_blocks_Is_L15 n u0 a.1.1 a.2) n ((1, ()), a7.2))
def rs_blocks_Is : Rs := [(.tmp 2, .bool)]
def ps_blocks_Is : List Ty := [.any]
theorem e_blocks_Is (n : Nat) (u0 : Value) (h : Heap) : f_blocks_Is n u0 h = fB (sf_blocks_Is n) (it_blocks_Is n) n c2_blocks_Is rs_blocks_Is ps_blocks_Is (u0, ()) h := by kernel_rfl
noncomputable def s_blocks_Is (n : Nat) : Sf1 := mkSf ps_blocks_Is rs_blocks_Is fun a h => f_blocks_Is n a.1 h

/- wicket/wicketref05.Is -/
def c2_wicketref05_Is : C2 :=
  .seq (.reg [(⟨(some 2), .move (.const (.bool false)), none⟩, .bool)]) <|
  .seq (.seq (.cutn [(11, .bool)] <|
        .reg [(⟨(some 4), .move (.tmp 0), none⟩, .any),
          (⟨(some 5), .lenS (.tmp 4), none⟩, (.int .i64)),
          (⟨(some 6), .bin .lss (.tmp 5) (.const (.int .i64 1)), none⟩, .bool),
          (⟨(some 7), .move (.tmp 6), none⟩, .bool),
          (⟨(some 8), .move (.tmp 0), some (7, false)⟩, .any),
          (⟨(some 9), .lenS (.tmp 8), some (7, false)⟩, (.int .i64)),
          (⟨(some 10), .bin .gtr (.tmp 9) (.const (.int .i64 16)), some (7, false)⟩, .bool),
          (⟨(some 11), .pick (.tmp 7) (.const (.bool true)) (.tmp 10), none⟩, .bool)]) <|
    .cond (.tmp 11)
      (.seq (.reg [(⟨(some 2), .move (.const (.bool false)), none⟩, .bool)]) <|
      .ret)
      (.skip)) <|
  .seq (.seq (.reg [(⟨(some 3), .move (.const (.int .i64 0)), none⟩, (.int .i64))]) <|
    .block 0 <|
      .loop [(3, (.int .i64))] <|
        .seq (.seq (.reg [(⟨(some 12), .move (.tmp 3), none⟩, (.int .i64)),
              (⟨(some 13), .move (.tmp 0), none⟩, .any),
              (⟨(some 14), .lenS (.tmp 13), none⟩, (.int .i64)),
              (⟨(some 15), .bin .lss (.tmp 12) (.tmp 14), none⟩, .bool)]) <|
          .cond (.tmp 15)
            (.skip)
            (.exit 0)) <|
        .seq (.block 1 <|
            .seq (.cutn [(45, .bool)] <|
                .regd [(⟨0, [], false, ⟨(some 18), .move (.tmp 0), none⟩⟩, .any),
                  (⟨1, [], false, ⟨(some 19), .move (.tmp 3), none⟩⟩, (.int .i64)),
                  (⟨2, [0, 1], false, ⟨(some 20), .idxSlice 1 (.tmp 18) (.tmp 19), none⟩⟩, .ptr),
                  (⟨3, [2, 0, 1], false, ⟨(some 21), .load false 1 (.tmp 20), none⟩⟩, (.int .i64)),
                  (⟨4, [3, 2, 0, 1], false, ⟨(some 22), .bin .lss (.tmp 21) (.const (.int .i64 0)), none⟩⟩, .bool),
                  (⟨5, [4, 3, 2, 0, 1], false, ⟨(some 23), .move (.tmp 22), none⟩⟩, .bool),
                  (⟨6, [5, 4, 3, 2, 0, 1], false, ⟨(some 24), .move (.tmp 0), some (23, false)⟩⟩, .any),
                  (⟨7, [5, 4, 3, 2, 0, 1], false, ⟨(some 25), .move (.tmp 3), some (23, false)⟩⟩, (.int .i64)),
                  (⟨8, [6, 7, 5, 4, 3, 2, 0, 1], false, ⟨(some 26), .idxSlice 1 (.tmp 24) (.tmp 25), some (23, false)⟩⟩, .ptr),
                  (⟨9, [8, 5, 6, 7, 4, 3, 2, 0, 1], false, ⟨(some 27), .load false 1 (.tmp 26), some (23, false)⟩⟩, (.int .i64)),
                  (⟨10, [9, 5, 8, 6, 7, 4, 3, 2, 0, 1], false, ⟨(some 28), .bin .geq (.tmp 27) (.const (.int .i64 64)), some (23, false)⟩⟩, .bool),
                  (⟨11, [5, 10, 4, 3, 2, 0, 1, 9, 8, 6, 7], false, ⟨(some 29), .pick (.tmp 23) (.const (.bool true)) (.tmp 28), none⟩⟩, .bool),
                  (⟨12, [11, 5, 10, 4, 3, 2, 0, 1, 9, 8, 6, 7], false, ⟨(some 30), .move (.tmp 29), none⟩⟩, .bool),
                  (⟨13, [12, 11, 5, 10, 4, 3, 2, 0, 1, 9, 8, 6, 7], false, ⟨(some 31), .move (.tmp 3), some (30, false)⟩⟩, (.int .i64)),
                  (⟨14, [13, 12, 11, 5, 10, 4, 3, 2, 0, 1, 9, 8, 6, 7], false, ⟨(some 32), .bin .gtr (.tmp 31) (.const (.int .i64 0)), some (30, false)⟩⟩, .bool),
                  (⟨15, [14, 12, 13, 11, 5, 10, 4, 3, 2, 0, 1, 9, 8, 6, 7], false, ⟨(some 33), .move (.tmp 32), some (30, false)⟩⟩, .bool),
                  (⟨16, [15, 14, 12, 13, 11, 5, 10, 4, 3, 2, 0, 1, 9, 8, 6, 7], false, ⟨(some 34), .move (.tmp 0), some (33, true)⟩⟩, .any),
                  (⟨17, [15, 14, 12, 13, 11, 5, 10, 4, 3, 2, 0, 1, 9, 8, 6, 7], false, ⟨(some 35), .move (.tmp 3), some (33, true)⟩⟩, (.int .i64)),
                  (⟨18, [17, 15, 14, 12, 13, 11, 5, 10, 4, 3, 2, 0, 1, 9, 8, 6, 7], false, ⟨(some 36), .bin .sub (.tmp 35) (.const (.int .i64 1)), some (33, true)⟩⟩, (.int .i64)),
                  (⟨19, [16, 18, 15, 14, 12, 13, 11, 5, 10, 4, 3, 2, 0, 1, 9, 8, 6, 7, 17], false, ⟨(some 37), .idxSlice 1 (.tmp 34) (.tmp 36), some (33, true)⟩⟩, .ptr),
                  (⟨20, [19, 15, 16, 18, 14, 12, 13, 11, 5, 10, 4, 3, 2, 0, 1, 9, 8, 6, 7, 17], false, ⟨(some 38), .load false 1 (.tmp 37), some (33, true)⟩⟩, (.int .i64)),
                  (⟨21, [15, 14, 12, 13, 11, 5, 10, 4, 3, 2, 0, 1, 9, 8, 6, 7], false, ⟨(some 39), .move (.tmp 0), some (33, true)⟩⟩, .any),
                  (⟨22, [15, 14, 12, 13, 11, 5, 10, 4, 3, 2, 0, 1, 9, 8, 6, 7], false, ⟨(some 40), .move (.tmp 3), some (33, true)⟩⟩, (.int .i64)),
                  (⟨23, [21, 22, 15, 14, 12, 13, 11, 5, 10, 4, 3, 2, 0, 1, 9, 8, 6, 7], false, ⟨(some 41), .idxSlice 1 (.tmp 39) (.tmp 40), some (33, true)⟩⟩, .ptr),
                  (⟨24, [23, 15, 21, 22, 14, 12, 13, 11, 5, 10, 4, 3, 2, 0, 1, 9, 8, 6, 7], false, ⟨(some 42), .load false 1 (.tmp 41), some (33, true)⟩⟩, (.int .i64)),
                  (⟨25, [20, 24, 15, 19, 16, 18, 14, 12, 13, 11, 5, 10, 4, 3, 2, 0, 1, 9, 8, 6, 7, 17, 23, 21, 22], false, ⟨(some 43), .bin .geq (.tmp 38) (.tmp 42), some (33, true)⟩⟩, .bool),
                  (⟨26, [15, 25, 12, 14, 13, 11, 5, 10, 4, 3, 2, 0, 1, 9, 8, 6, 7, 20, 24, 19, 16, 18, 17, 23, 21, 22], false, ⟨(some 44), .pick (.tmp 33) (.tmp 43) (.const (.bool false)), some (30, false)⟩⟩, .bool),
                  (⟨27, [12, 26, 11, 5, 10, 4, 3, 2, 0, 1, 9, 8, 6, 7, 15, 25, 14, 13, 20, 24, 19, 16, 18, 17, 23, 21, 22], false, ⟨(some 45), .pick (.tmp 30) (.const (.bool true)) (.tmp 44), none⟩⟩, .bool)]) <|
            .cond (.tmp 45)
              (.seq (.reg [(⟨(some 2), .move (.const (.bool false)), none⟩, .bool)]) <|
              .ret)
              (.skip)) <|
        .reg [(⟨(some 16), .move (.tmp 3), none⟩, (.int .i64)),
          (⟨(some 17), .bin .add (.tmp 16) (.const (.int .i64 1)), none⟩, (.int .i64)),
          (⟨(some 3), .move (.tmp 17), none⟩, (.int .i64))]) <|
  .seq (.reg [(⟨(some 2), .move (.const (.bool true)), none⟩, .bool)]) <|
  .ret
def f_wicketref05_Is_L15 (n : Nat) (u0 : Value) (v3 : Int) (h4 : Heap) : Option (((Int × Unit) × Heap) ⊕ ((Bool × Unit) × Heap)) :=
  (lenB u0).bind fun n5 =>
  bif (decide (v3 < (n5 : Int))) then
    ((((ixB 1 u0 v3).bind fun q6 =>
      (ldT (.int .i64) h4 (some q6)).bind fun x7 =>
      bif (decide (x7 < 0)) then
        (some ((true, ()), h4))
      else
        ((ixB 1 u0 v3).bind fun q8 =>
        (ldT (.int .i64) h4 (some q8)).bind fun x9 =>
        bif (decide (64 ≤ x9)) then
          (some ((true, ()), h4))
        else
          (bif (decide (0 < v3)) then
            ((ixB 1 u0 (IntKind.i64.wrap (v3 - 1))).bind fun q10 =>
            (ldT (.int .i64) h4 (some q10)).bind fun x11 =>
            (ixB 1 u0 v3).bind fun q12 =>
            (ldT (.int .i64) h4 (some q12)).bind fun x13 =>
            some (((decide (x13 ≤ x11)), ()), h4))
          else
            (some ((false, ()), h4))))) : Option ((Bool × Unit) × Heap)).bind fun a14 =>
    bif a14.1.1 then
      (some (.inr ((false, ()), a14.2)))
    else
      (some (.inl (((IntKind.i64.wrap (v3 + 1)), ()), a14.2))))
  else
    (some (.inr ((true, ()), h4)))
noncomputable def sf_wicketref05_Is (n : Nat) : Sf := sfOf []
noncomputable def it_wicketref05_Is (n : Nat) : It := itOf []
def f_wicketref05_Is (n : Nat) (u0 : Value) (h : Heap) : Option ((Bool × Unit) × Heap) :=
  (((lenB u0).bind fun n0 =>
    bif (decide ((n0 : Int) < 1)) then
      (some ((true, ()), h))
    else
      ((lenB u0).bind fun n1 =>
      some (((decide (16 < (n1 : Int))), ()), h))) : Option ((Bool × Unit) × Heap)).bind fun a2 =>
  bif a2.1.1 then
    (some ((false, ()), a2.2))
  else
    (loopT (fun a => f_wicketref05_Is_L15 n u0 a.1.1 a.2) n ((0, ()), a2.2))
def rs_wicketref05_Is : Rs := [(.tmp 2, .bool)]
def ps_wicketref05_Is : List Ty := [.any]
theorem e_wicketref05_Is (n : Nat) (u0 : Value) (h : Heap) : f_wicketref05_Is n u0 h = fB (sf_wicketref05_Is n) (it_wicketref05_Is n) n c2_wicketref05_Is rs_wicketref05_Is ps_wicketref05_Is (u0, ()) h := by kernel_rfl
noncomputable def s_wicketref05_Is (n : Nat) : Sf1 := mkSf ps_wicketref05_Is rs_wicketref05_Is fun a h => f_wicketref05_Is n a.1 h

/- wicket/wicketref05.Has -/
def c2_wicketref05_Has : C2 :=
  .seq (.reg [(⟨(some 4), .move (.const (.bool false)), none⟩, .bool)]) <|
  .seq (.seq (.reg [(⟨(some 5), .move (.const (.int .i64 0)), none⟩, (.int .i64))]) <|
    .block 0 <|
      .loop [(5, (.int .i64))] <|
        .seq (.seq (.reg [(⟨(some 6), .move (.tmp 5), none⟩, (.int .i64)),
              (⟨(some 7), .move (.tmp 0), none⟩, .any),
              (⟨(some 8), .lenS (.tmp 7), none⟩, (.int .i64)),
              (⟨(some 9), .bin .lss (.tmp 6) (.tmp 8), none⟩, .bool)]) <|
          .cond (.tmp 9)
            (.skip)
            (.exit 0)) <|
        .seq (.block 1 <|
            .seq (.reg [(⟨(some 12), .move (.tmp 0), none⟩, .any),
                (⟨(some 13), .move (.tmp 5), none⟩, (.int .i64)),
                (⟨(some 14), .idxSlice 1 (.tmp 12) (.tmp 13), none⟩, .ptr),
                (⟨(some 15), .load false 1 (.tmp 14), none⟩, (.int .i64)),
                (⟨(some 16), .move (.tmp 1), none⟩, (.int .i64)),
                (⟨(some 17), .bin .eql (.tmp 15) (.tmp 16), none⟩, .bool)]) <|
            .cond (.tmp 17)
              (.seq (.reg [(⟨(some 4), .move (.const (.bool true)), none⟩, .bool)]) <|
              .ret)
              (.skip)) <|
        .reg [(⟨(some 10), .move (.tmp 5), none⟩, (.int .i64)),
          (⟨(some 11), .bin .add (.tmp 10) (.const (.int .i64 1)), none⟩, (.int .i64)),
          (⟨(some 5), .move (.tmp 11), none⟩, (.int .i64))]) <|
  .seq (.reg [(⟨(some 4), .move (.const (.bool false)), none⟩, .bool)]) <|
  .ret
def f_wicketref05_Has_L5 (n : Nat) (u1 : Int) (u0 : Value) (v0 : Int) (h1 : Heap) : Option (((Int × Unit) × Heap) ⊕ ((Bool × Unit) × Heap)) :=
  (lenB u0).bind fun n2 =>
  bif (decide (v0 < (n2 : Int))) then
    ((ixB 1 u0 v0).bind fun q3 =>
    (ldT (.int .i64) h1 (some q3)).bind fun x4 =>
    bif (decide (x4 = u1)) then
      (some (.inr ((true, ()), h1)))
    else
      (some (.inl (((IntKind.i64.wrap (v0 + 1)), ()), h1))))
  else
    (some (.inr ((false, ()), h1)))
noncomputable def sf_wicketref05_Has (n : Nat) : Sf := sfOf []
noncomputable def it_wicketref05_Has (n : Nat) : It := itOf []
def f_wicketref05_Has (n : Nat) (u0 : Value) (u1 : Int) (h : Heap) : Option ((Bool × Unit) × Heap) :=
  loopT (fun a => f_wicketref05_Has_L5 n u1 u0 a.1.1 a.2) n ((0, ()), h)
def rs_wicketref05_Has : Rs := [(.tmp 4, .bool)]
def ps_wicketref05_Has : List Ty := [.any, (.int .i64)]
theorem e_wicketref05_Has (n : Nat) (u0 : Value) (u1 : Int) (h : Heap) : f_wicketref05_Has n u0 u1 h = fB (sf_wicketref05_Has n) (it_wicketref05_Has n) n c2_wicketref05_Has rs_wicketref05_Has ps_wicketref05_Has (u0, (u1, ())) h := by kernel_rfl
noncomputable def s_wicketref05_Has (n : Nat) : Sf1 := mkSf ps_wicketref05_Has rs_wicketref05_Has fun a h => f_wicketref05_Has n a.1 a.2.1 h

/- wicket/wicketlaw05.Held -/
def c2_wicketlaw05_Held : C2 :=
  .seq (.reg [(⟨(some 4), .move (.const (.bool false)), none⟩, .bool)]) <|
  .seq (.reg [(⟨(some 6), .move (.tmp 0), none⟩, .any),
      (⟨(some 7), .move (.tmp 1), none⟩, .any),
      (⟨(some 8), .lenS (.tmp 7), none⟩, (.int .i64)),
      (⟨(some 9), .bin .add (.tmp 8) (.const (.int .i64 2)), none⟩, (.int .i64)),
      (⟨(some 10), .slice 1 (.tmp 6) none (some (.tmp 9)) none, none⟩, .any),
      (⟨(some 5), .move (.tmp 10), none⟩, .any)]) <|
  .seq (.reg [(⟨(some 11), .move (.tmp 5), none⟩, .any),
      (⟨(some 12), .move (.tmp 1), none⟩, .any),
      (⟨(some 13), .lenS (.tmp 12), none⟩, (.int .i64)),
      (⟨(some 14), .slice 1 (.tmp 11) none (some (.tmp 13)) none, none⟩, .any),
      (⟨(some 15), .move (.tmp 1), none⟩, .any),
      (⟨(some 16), .call k_wicketref05_Same [(.tmp 14), (.tmp 15)], none⟩, .bool),
      (⟨(some 17), .move (.tmp 16), none⟩, .bool),
      (⟨(some 18), .move (.tmp 5), some (17, true)⟩, .any),
      (⟨(some 19), .move (.tmp 1), some (17, true)⟩, .any),
      (⟨(some 20), .lenS (.tmp 19), some (17, true)⟩, (.int .i64)),
      (⟨(some 21), .idxSlice 1 (.tmp 18) (.tmp 20), some (17, true)⟩, .ptr),
      (⟨(some 22), .load false 1 (.tmp 21), some (17, true)⟩, (.int .i64)),
      (⟨(some 23), .bin .eql (.tmp 22) (.const (.int .i64 7777)), some (17, true)⟩, .bool),
      (⟨(some 24), .pick (.tmp 17) (.tmp 23) (.const (.bool false)), none⟩, .bool),
      (⟨(some 25), .move (.tmp 24), none⟩, .bool),
      (⟨(some 26), .move (.tmp 5), some (25, true)⟩, .any),
      (⟨(some 27), .move (.tmp 1), some (25, true)⟩, .any),
      (⟨(some 28), .lenS (.tmp 27), some (25, true)⟩, (.int .i64)),
      (⟨(some 29), .bin .add (.tmp 28) (.const (.int .i64 1)), some (25, true)⟩, (.int .i64)),
      (⟨(some 30), .idxSlice 1 (.tmp 26) (.tmp 29), some (25, true)⟩, .ptr),
      (⟨(some 31), .load false 1 (.tmp 30), some (25, true)⟩, (.int .i64)),
      (⟨(some 32), .bin .eql (.tmp 31) (.const (.int .i64 8888)), some (25, true)⟩, .bool),
      (⟨(some 33), .pick (.tmp 25) (.tmp 32) (.const (.bool false)), none⟩, .bool),
      (⟨(some 4), .move (.tmp 33), none⟩, .bool)]) <|
  .ret
noncomputable def sf_wicketlaw05_Held (n : Nat) : Sf := sfOf [(k_wicketref05_Same, s_wicketref05_Same n)]
noncomputable def it_wicketlaw05_Held (n : Nat) : It := itOf []
def f_wicketlaw05_Held (n : Nat) (u0 : Value) (u1 : Value) (h : Heap) : Option ((Bool × Unit) × Heap) :=
  (lenB u1).bind fun n0 =>
  (sliceK h 1 none (some (.int .i64 (IntKind.i64.wrap ((n0 : Int) + 2)))) none u0).bind fun p1 =>
  (lenB u1).bind fun n2 =>
  (sliceK h 1 none (some (.int .i64 (n2 : Int))) none p1.1).bind fun p3 =>
  (f_wicketref05_Same n p3.1 u1 h).bind fun p4 =>
  bif p4.1.1 then
    ((lenB u1).bind fun n5 =>
    (ixB 1 p1.1 (n5 : Int)).bind fun q6 =>
    (ldT (.int .i64) p4.2 (some q6)).bind fun x7 =>
    bif (decide (x7 = 7777)) then
      ((lenB u1).bind fun n8 =>
      (ixB 1 p1.1 (IntKind.i64.wrap ((n8 : Int) + 1))).bind fun q9 =>
      (ldT (.int .i64) p4.2 (some q9)).bind fun x10 =>
      some (((decide (x10 = 8888)), ()), p4.2))
    else
      (some ((false, ()), p4.2)))
  else
    (some ((false, ()), p4.2))
def rs_wicketlaw05_Held : Rs := [(.tmp 4, .bool)]
def ps_wicketlaw05_Held : List Ty := [.any, .any]
theorem e_wicketlaw05_Held (n : Nat) (u0 : Value) (u1 : Value) (h : Heap) : f_wicketlaw05_Held n u0 u1 h = fB (sf_wicketlaw05_Held n) (it_wicketlaw05_Held n) n c2_wicketlaw05_Held rs_wicketlaw05_Held ps_wicketlaw05_Held (u0, (u1, ())) h := by kernel_rfl
noncomputable def s_wicketlaw05_Held (n : Nat) : Sf1 := mkSf ps_wicketlaw05_Held rs_wicketlaw05_Held fun a h => f_wicketlaw05_Held n a.1 a.2.1 h

/- wicket/wicketlaw05.turn -/
def c2_wicketlaw05_turn : C2 :=
  .seq (.cutn [] <|
      .seq (.reg [(⟨(some 2), .move (.const (.int .i64 0)), none⟩, (.int .i64))]) <|
      .block 0 <|
        .loop [(2, (.int .i64))] <|
          .seq (.seq (.reg [(⟨(some 3), .move (.tmp 2), none⟩, (.int .i64)),
                (⟨(some 4), .move (.tmp 0), none⟩, .any),
                (⟨(some 5), .lenS (.tmp 4), none⟩, (.int .i64)),
                (⟨(some 6), .bin .quo (.tmp 5) (.const (.int .i64 2)), none⟩, (.int .i64)),
                (⟨(some 7), .bin .lss (.tmp 3) (.tmp 6), none⟩, .bool)]) <|
            .cond (.tmp 7)
              (.skip)
              (.exit 0)) <|
          .seq (.block 1 <|
              .regd [(⟨0, [], false, ⟨(some 10), .move (.tmp 0), none⟩⟩, .any),
                (⟨1, [], false, ⟨(some 11), .move (.tmp 2), none⟩⟩, (.int .i64)),
                (⟨2, [], false, ⟨(some 12), .move (.tmp 0), none⟩⟩, .any),
                (⟨3, [], false, ⟨(some 13), .move (.tmp 0), none⟩⟩, .any),
                (⟨4, [3], false, ⟨(some 14), .lenS (.tmp 13), none⟩⟩, (.int .i64)),
                (⟨5, [4, 3], false, ⟨(some 15), .bin .sub (.tmp 14) (.const (.int .i64 1)), none⟩⟩, (.int .i64)),
                (⟨6, [], false, ⟨(some 16), .move (.tmp 2), none⟩⟩, (.int .i64)),
                (⟨7, [5, 6, 4, 3], false, ⟨(some 17), .bin .sub (.tmp 15) (.tmp 16), none⟩⟩, (.int .i64)),
                (⟨8, [], false, ⟨(some 18), .move (.tmp 0), none⟩⟩, .any),
                (⟨9, [], false, ⟨(some 19), .move (.tmp 0), none⟩⟩, .any),
                (⟨10, [9], false, ⟨(some 20), .lenS (.tmp 19), none⟩⟩, (.int .i64)),
                (⟨11, [10, 9], false, ⟨(some 21), .bin .sub (.tmp 20) (.const (.int .i64 1)), none⟩⟩, (.int .i64)),
                (⟨12, [], false, ⟨(some 22), .move (.tmp 2), none⟩⟩, (.int .i64)),
                (⟨13, [11, 12, 10, 9], false, ⟨(some 23), .bin .sub (.tmp 21) (.tmp 22), none⟩⟩, (.int .i64)),
                (⟨14, [8, 13, 11, 12, 10, 9], false, ⟨(some 24), .idxSlice 1 (.tmp 18) (.tmp 23), none⟩⟩, .ptr),
                (⟨15, [14, 8, 13, 11, 12, 10, 9], false, ⟨(some 25), .load false 1 (.tmp 24), none⟩⟩, (.int .i64)),
                (⟨16, [], false, ⟨(some 26), .move (.tmp 0), none⟩⟩, .any),
                (⟨17, [], false, ⟨(some 27), .move (.tmp 2), none⟩⟩, (.int .i64)),
                (⟨18, [16, 17], false, ⟨(some 28), .idxSlice 1 (.tmp 26) (.tmp 27), none⟩⟩, .ptr),
                (⟨19, [18, 16, 17], false, ⟨(some 29), .load false 1 (.tmp 28), none⟩⟩, (.int .i64)),
                (⟨20, [0, 1, 8, 9, 10, 11, 12, 13, 14, 15, 19, 18, 16, 17], false, ⟨(some 30), .idxSlice 1 (.tmp 10) (.tmp 11), none⟩⟩, .ptr),
                (⟨21, [20, 15, 0, 1, 8, 9, 10, 11, 12, 13, 14, 19, 18, 16, 17], true, ⟨none, .store 1 (.tmp 30) (.tmp 25), none⟩⟩, .any),
                (⟨22, [2, 7, 0, 1, 3, 4, 5, 6, 8, 9, 10, 11, 12, 13, 14, 15, 16, 17, 18, 19, 20, 21], false, ⟨(some 31), .idxSlice 1 (.tmp 12) (.tmp 17), none⟩⟩, .ptr),
                (⟨23, [22, 19, 21, 0, 1, 2, 3, 4, 5, 6, 7, 8, 9, 10, 11, 12, 13, 14, 15, 16, 17, 18, 20], true, ⟨none, .store 1 (.tmp 31) (.tmp 29), none⟩⟩, .any)]) <|
          .reg [(⟨(some 8), .move (.tmp 2), none⟩, (.int .i64)),
            (⟨(some 9), .bin .add (.tmp 8) (.const (.int .i64 1)), none⟩, (.int .i64)),
            (⟨(some 2), .move (.tmp 9), none⟩, (.int .i64))]) <|
  .seq (.reg [(⟨(some 32), .move (.tmp 0), none⟩, .any),
      (⟨(some 33), .lenS (.tmp 32), none⟩, (.int .i64)),
      (⟨(some 34), .bin .gtr (.tmp 33) (.const (.int .i64 0)), none⟩, .bool)]) <|
  .cond (.tmp 34)
    (.reg [(⟨(some 35), .move (.tmp 0), none⟩, .any),
      (⟨(some 36), .move (.tmp 0), none⟩, .any),
      (⟨(some 37), .move (.tmp 0), none⟩, .any),
      (⟨(some 38), .lenS (.tmp 37), none⟩, (.int .i64)),
      (⟨(some 39), .bin .sub (.tmp 38) (.const (.int .i64 1)), none⟩, (.int .i64)),
      (⟨(some 40), .idxSlice 1 (.tmp 36) (.tmp 39), none⟩, .ptr),
      (⟨(some 41), .load false 1 (.tmp 40), none⟩, (.int .i64)),
      (⟨(some 42), .idxSlice 1 (.tmp 35) (.const (.int .i64 0)), none⟩, .ptr),
      (⟨none, .store 1 (.tmp 42) (.tmp 41), none⟩, .any)])
    (.skip)
def f_wicketlaw05_turn_L13 (n : Nat) (u0 : Value) (v0 : Int) (h1 : Heap) : Option (((Int × Unit) × Heap) ⊕ ((Unit) × Heap)) :=
  (lenB u0).bind fun n2 =>
  bif (decide (v0 < (IntKind.i64.wrap (Int.tdiv (n2 : Int) 2)))) then
    ((lenB u0).bind fun n3 =>
    (lenB u0).bind fun n4 =>
    (ixB 1 u0 (IntKind.i64.wrap ((IntKind.i64.wrap ((n4 : Int) - 1)) - v0))).bind fun q5 =>
    (ldT (.int .i64) h1 (some q5)).bind fun x6 =>
    (ixB 1 u0 v0).bind fun q7 =>
    (ldT (.int .i64) h1 (some q7)).bind fun x8 =>
    (ixB 1 u0 v0).bind fun q9 =>
    (stB 1 (.int .i64 x6) h1 (some q9)).bind fun h10 =>
    (ixB 1 u0 (IntKind.i64.wrap ((IntKind.i64.wrap ((n3 : Int) - 1)) - v0))).bind fun q11 =>
    (stB 1 (.int .i64 x8) h10 (some q11)).bind fun h12 =>
    some (.inl (((IntKind.i64.wrap (v0 + 1)), ()), h12)))
  else
    (some (.inr ((), h1)))
noncomputable def sf_wicketlaw05_turn (n : Nat) : Sf := sfOf []
noncomputable def it_wicketlaw05_turn (n : Nat) : It := itOf []
def f_wicketlaw05_turn (n : Nat) (u0 : Value) (h : Heap) : Option ((Unit) × Heap) :=
  ((loopT (fun a => f_wicketlaw05_turn_L13 n u0 a.1.1 a.2) n ((0, ()), h)) : Option ((Unit) × Heap)).bind fun a14 =>
  (lenB u0).bind fun n15 =>
  bif (decide (0 < (n15 : Int))) then
    ((lenB u0).bind fun n16 =>
    (ixB 1 u0 (IntKind.i64.wrap ((n16 : Int) - 1))).bind fun q17 =>
    (ldT (.int .i64) a14.2 (some q17)).bind fun x18 =>
    (ixB 1 u0 0).bind fun q19 =>
    (stB 1 (.int .i64 x18) a14.2 (some q19)).bind fun h20 =>
    some ((), h20))
  else
    (some ((), a14.2))
def rs_wicketlaw05_turn : Rs := []
def ps_wicketlaw05_turn : List Ty := [.any]
theorem e_wicketlaw05_turn (n : Nat) (u0 : Value) (h : Heap) : f_wicketlaw05_turn n u0 h = fB (sf_wicketlaw05_turn n) (it_wicketlaw05_turn n) n c2_wicketlaw05_turn rs_wicketlaw05_turn ps_wicketlaw05_turn (u0, ()) h := by kernel_rfl
noncomputable def s_wicketlaw05_turn (n : Nat) : Sf1 := mkSf ps_wicketlaw05_turn rs_wicketlaw05_turn fun a h => f_wicketlaw05_turn n a.1 h

/- wicket/wicketlaw05.Own -/
def c2_wicketlaw05_Own : C2 :=
  .seq (.reg [(⟨(some 2), .move (.const (.slice none 0 0)), none⟩, .any)]) <|
  .seq (.reg [(⟨(some 3), .buildSlice 0 1 [] [], none⟩, .any),
      (⟨(some 4), .move (.tmp 0), none⟩, .any),
      (⟨(some 5), .append 8 1 (.tmp 3) (.tmp 4), none⟩, .any),
      (⟨(some 2), .move (.tmp 5), none⟩, .any)]) <|
  .ret
noncomputable def sf_wicketlaw05_Own (n : Nat) : Sf := sfOf []
noncomputable def it_wicketlaw05_Own (n : Nat) : It := itOf []
def f_wicketlaw05_Own (n : Nat) (u0 : Value) (h : Heap) : Option ((Value × Unit) × Heap) :=
  (fillL [] []).bind fun cs0 =>
  bnd ((Heap.new h (.cells cs0 false 1))) fun h1 =>
  (appendK h1 8 1 (.slice (some ⟨Heap.next h, 0, some 0⟩) 0 0) u0).bind fun p2 =>
  bif !isTuple p2.1 then
    (some ((p2.1, ()), p2.2))
  else
    (none)
def rs_wicketlaw05_Own : Rs := [(.tmp 2, .any)]
def ps_wicketlaw05_Own : List Ty := [.any]
theorem e_wicketlaw05_Own (n : Nat) (u0 : Value) (h : Heap) : f_wicketlaw05_Own n u0 h = fB (sf_wicketlaw05_Own n) (it_wicketlaw05_Own n) n c2_wicketlaw05_Own rs_wicketlaw05_Own ps_wicketlaw05_Own (u0, ()) h := by kernel_rfl
noncomputable def s_wicketlaw05_Own (n : Nat) : Sf1 := mkSf ps_wicketlaw05_Own rs_wicketlaw05_Own fun a h => f_wicketlaw05_Own n a.1 h

/- wicket/wicketlaw05.Apart -/
def c2_wicketlaw05_Apart : C2 :=
  .seq (.reg [(⟨none, .clrS, none⟩, .any)]) <|
  .seq (.reg [(⟨(some 2), .move (.const (.bool false)), none⟩, .bool)]) <|
  .seq (.cutn [] <|
      .seq (.reg [(⟨(some 3), .move (.const (.int .i64 0)), none⟩, (.int .i64))]) <|
      .block 0 <|
        .loop [(3, (.int .i64))] <|
          .seq (.seq (.reg [(⟨(some 14), .move (.tmp 3), none⟩, (.int .i64)),
                (⟨(some 15), .move (.tmp 0), none⟩, .any),
                (⟨(some 16), .lenS (.tmp 15), none⟩, (.int .i64)),
                (⟨(some 17), .bin .lss (.tmp 14) (.tmp 16), none⟩, .bool)]) <|
            .cond (.tmp 17)
              (.skip)
              (.exit 0)) <|
          .seq (.cutn [] <|
              .block 1 <|
                .seq (.reg [(⟨(some 4), .move (.const (.int .i64 0)), none⟩, (.int .i64))]) <|
                .block 2 <|
                  .loop [(4, (.int .i64))] <|
                    .seq (.seq (.reg [(⟨(some 20), .move (.tmp 4), none⟩, (.int .i64)),
                          (⟨(some 21), .move (.tmp 0), none⟩, .any),
                          (⟨(some 22), .move (.tmp 3), none⟩, (.int .i64)),
                          (⟨(some 23), .idxSlice 1 (.tmp 21) (.tmp 22), none⟩, .ptr),
                          (⟨(some 24), .loadS false 1 (.tmp 23), none⟩, .any),
                          (⟨(some 25), .lenS (.tmp 24), none⟩, (.int .i64)),
                          (⟨(some 26), .bin .lss (.tmp 20) (.tmp 25), none⟩, .bool)]) <|
                      .cond (.tmp 26)
                        (.skip)
                        (.exit 2)) <|
                    .seq (.block 3 <|
                        .reg [(⟨(some 29), .move (.tmp 0), none⟩, .any),
                          (⟨(some 30), .move (.tmp 3), none⟩, (.int .i64)),
                          (⟨(some 31), .idxSlice 1 (.tmp 29) (.tmp 30), none⟩, .ptr),
                          (⟨(some 32), .loadS false 1 (.tmp 31), none⟩, .any),
                          (⟨(some 33), .move (.tmp 4), none⟩, (.int .i64)),
                          (⟨(some 34), .move (.tmp 3), none⟩, (.int .i64)),
                          (⟨(some 35), .bin .sub (.const (.int .i64 (-1))) (.tmp 34), none⟩, (.int .i64)),
                          (⟨(some 36), .idxSlice 1 (.tmp 32) (.tmp 33), none⟩, .ptr),
                          (⟨none, .store 1 (.tmp 36) (.tmp 35), none⟩, .any)]) <|
                    .reg [(⟨(some 27), .move (.tmp 4), none⟩, (.int .i64)),
                      (⟨(some 28), .bin .add (.tmp 27) (.const (.int .i64 1)), none⟩, (.int .i64)),
                      (⟨(some 4), .move (.tmp 28), none⟩, (.int .i64))]) <|
          .reg [(⟨(some 18), .move (.tmp 3), none⟩, (.int .i64)),
            (⟨(some 19), .bin .add (.tmp 18) (.const (.int .i64 1)), none⟩, (.int .i64)),
            (⟨(some 3), .move (.tmp 19), none⟩, (.int .i64))]) <|
  .seq (.reg [(⟨(some 5), .move (.const (.slice none 0 0)), none⟩, .any)]) <|
  .seq (.cutn [(5, .any)] <|
      .seq (.reg [(⟨(some 6), .move (.const (.int .i64 0)), none⟩, (.int .i64))]) <|
      .block 4 <|
        .loop [(5, .any), (6, (.int .i64))] <|
          .seq (.seq (.reg [(⟨(some 37), .move (.tmp 6), none⟩, (.int .i64)),
                (⟨(some 38), .move (.tmp 0), none⟩, .any),
                (⟨(some 39), .lenS (.tmp 38), none⟩, (.int .i64)),
                (⟨(some 40), .bin .lss (.tmp 37) (.tmp 39), none⟩, .bool)]) <|
            .cond (.tmp 40)
              (.skip)
              (.exit 4)) <|
          .seq (.cutn [(5, .any)] <|
              .block 5 <|
                .seq (.reg [(⟨(some 43), .move (.tmp 0), none⟩, .any),
                    (⟨(some 44), .move (.tmp 6), none⟩, (.int .i64)),
                    (⟨(some 45), .idxSlice 1 (.tmp 43) (.tmp 44), none⟩, .ptr),
                    (⟨(some 46), .loadS false 1 (.tmp 45), none⟩, .any),
                    (⟨(some 7), .move (.tmp 46), none⟩, .any)]) <|
                .seq (.cutn [(5, .any), (7, .any)] <|
                    .seq (.reg [(⟨(some 8), .move (.const (.int .i64 0)), none⟩, (.int .i64))]) <|
                    .block 6 <|
                      .loop [(5, .any), (7, .any), (8, (.int .i64))] <|
                        .seq (.seq (.reg [(⟨(some 47), .move (.tmp 8), none⟩, (.int .i64)),
                              (⟨(some 48), .bin .lss (.tmp 47) (.const (.int .i64 80)), none⟩, .bool)]) <|
                          .cond (.tmp 48)
                            (.skip)
                            (.exit 6)) <|
                        .seq (.cutn [(5, .any), (7, .any)] <|
                            .block 7 <|
                              .seq (.reg [(⟨(some 51), .move (.tmp 7), none⟩, .any),
                                  (⟨(some 52), .move (.tmp 6), none⟩, (.int .i64)),
                                  (⟨(some 53), .bin .sub (.const (.int .i64 (-1001))) (.tmp 52), none⟩, (.int .i64)),
                                  (⟨(some 54), .buildSlice 1 1 [(.int .i64 0)] [(0, 1, (.tmp 53))], none⟩, .any),
                                  (⟨(some 55), .appendS 8 1 (.tmp 51) (.tmp 54), none⟩, .any),
                                  (⟨(some 7), .move (.tmp 55), none⟩, .any)]) <|
                              .seq (.reg [(⟨(some 56), .move (.tmp 8), none⟩, (.int .i64)),
                                  (⟨(some 57), .bin .lss (.tmp 56) (.const (.int .i64 16)), none⟩, .bool)]) <|
                              .cond (.tmp 57)
                                (.reg [(⟨(some 58), .move (.tmp 5), none⟩, .any),
                                  (⟨(some 59), .move (.tmp 7), none⟩, .any),
                                  (⟨(some 60), .buildSlice 1 1 [(.slice none 0 0)] [(0, 1, (.tmp 59))], none⟩, .any),
                                  (⟨(some 61), .appendS 24 1 (.tmp 58) (.tmp 60), none⟩, .any),
                                  (⟨(some 5), .move (.tmp 61), none⟩, .any)])
                                (.skip)) <|
                        .reg [(⟨(some 49), .move (.tmp 8), none⟩, (.int .i64)),
                          (⟨(some 50), .bin .add (.tmp 49) (.const (.int .i64 1)), none⟩, (.int .i64)),
                          (⟨(some 8), .move (.tmp 50), none⟩, (.int .i64))]) <|
                .reg [(⟨(some 62), .move (.tmp 5), none⟩, .any),
                  (⟨(some 63), .move (.tmp 7), none⟩, .any),
                  (⟨(some 64), .buildSlice 1 1 [(.slice none 0 0)] [(0, 1, (.tmp 63))], none⟩, .any),
                  (⟨(some 65), .appendS 24 1 (.tmp 62) (.tmp 64), none⟩, .any),
                  (⟨(some 5), .move (.tmp 65), none⟩, .any)]) <|
          .reg [(⟨(some 41), .move (.tmp 6), none⟩, (.int .i64)),
            (⟨(some 42), .bin .add (.tmp 41) (.const (.int .i64 1)), none⟩, (.int .i64)),
            (⟨(some 6), .move (.tmp 42), none⟩, (.int .i64))]) <|
  .seq (.seq (.reg [(⟨(some 9), .move (.const (.int .i64 0)), none⟩, (.int .i64))]) <|
    .block 8 <|
      .loop [(9, (.int .i64))] <|
        .seq (.seq (.reg [(⟨(some 66), .move (.tmp 9), none⟩, (.int .i64)),
              (⟨(some 67), .move (.tmp 0), none⟩, .any),
              (⟨(some 68), .lenS (.tmp 67), none⟩, (.int .i64)),
              (⟨(some 69), .bin .lss (.tmp 66) (.tmp 68), none⟩, .bool)]) <|
          .cond (.tmp 69)
            (.skip)
            (.exit 8)) <|
        .seq (.cut [] <|
            .block 9 <|
              .seq (.cut [] <|
                  .seq (.reg [(⟨(some 10), .move (.const (.int .i64 0)), none⟩, (.int .i64))]) <|
                  .block 10 <|
                    .loop [(10, (.int .i64))] <|
                      .seq (.seq (.reg [(⟨(some 72), .move (.tmp 10), none⟩, (.int .i64)),
                            (⟨(some 73), .move (.tmp 0), none⟩, .any),
                            (⟨(some 74), .move (.tmp 9), none⟩, (.int .i64)),
                            (⟨(some 75), .idxSlice 1 (.tmp 73) (.tmp 74), none⟩, .ptr),
                            (⟨(some 76), .loadS false 1 (.tmp 75), none⟩, .any),
                            (⟨(some 77), .lenS (.tmp 76), none⟩, (.int .i64)),
                            (⟨(some 78), .bin .lss (.tmp 72) (.tmp 77), none⟩, .bool)]) <|
                        .cond (.tmp 78)
                          (.skip)
                          (.exit 10)) <|
                      .seq (.block 11 <|
                          .seq (.reg [(⟨(some 81), .move (.tmp 0), none⟩, .any),
                              (⟨(some 82), .move (.tmp 9), none⟩, (.int .i64)),
                              (⟨(some 83), .idxSlice 1 (.tmp 81) (.tmp 82), none⟩, .ptr),
                              (⟨(some 84), .loadS false 1 (.tmp 83), none⟩, .any),
                              (⟨(some 85), .move (.tmp 10), none⟩, (.int .i64)),
                              (⟨(some 86), .idxSlice 1 (.tmp 84) (.tmp 85), none⟩, .ptr),
                              (⟨(some 87), .loadS false 1 (.tmp 86), none⟩, (.int .i64)),
                              (⟨(some 88), .move (.tmp 9), none⟩, (.int .i64)),
                              (⟨(some 89), .bin .sub (.const (.int .i64 (-1))) (.tmp 88), none⟩, (.int .i64)),
                              (⟨(some 90), .bin .neq (.tmp 87) (.tmp 89), none⟩, .bool)]) <|
                          .cond (.tmp 90)
                            (.seq (.reg [(⟨(some 2), .move (.const (.bool false)), none⟩, .bool)]) <|
                            .ret)
                            (.skip)) <|
                      .reg [(⟨(some 79), .move (.tmp 10), none⟩, (.int .i64)),
                        (⟨(some 80), .bin .add (.tmp 79) (.const (.int .i64 1)), none⟩, (.int .i64)),
                        (⟨(some 10), .move (.tmp 80), none⟩, (.int .i64))]) <|
              .seq (.reg [(⟨(some 11), .move (.const (.int .i64 0)), none⟩, (.int .i64))]) <|
              .block 12 <|
                .loop [(11, (.int .i64))] <|
                  .seq (.seq (.reg [(⟨(some 91), .move (.tmp 11), none⟩, (.int .i64)),
                        (⟨(some 92), .bin .lss (.tmp 91) (.const (.int .i64 17)), none⟩, .bool)]) <|
                    .cond (.tmp 92)
                      (.skip)
                      (.exit 12)) <|
                  .seq (.cut [] <|
                      .block 13 <|
                        .seq (.reg [(⟨(some 95), .move (.tmp 5), none⟩, .any),
                            (⟨(some 96), .move (.tmp 9), none⟩, (.int .i64)),
                            (⟨(some 97), .bin .mul (.const (.int .i64 17)) (.tmp 96), none⟩, (.int .i64)),
                            (⟨(some 98), .move (.tmp 11), none⟩, (.int .i64)),
                            (⟨(some 99), .bin .add (.tmp 97) (.tmp 98), none⟩, (.int .i64)),
                            (⟨(some 100), .idxSlice 1 (.tmp 95) (.tmp 99), none⟩, .ptr),
                            (⟨(some 101), .loadS false 1 (.tmp 100), none⟩, .any),
                            (⟨(some 12), .move (.tmp 101), none⟩, .any)]) <|
                        .seq (.reg [(⟨(some 102), .move (.tmp 0), none⟩, .any),
                            (⟨(some 103), .move (.tmp 9), none⟩, (.int .i64)),
                            (⟨(some 104), .idxSlice 1 (.tmp 102) (.tmp 103), none⟩, .ptr),
                            (⟨(some 105), .loadS false 1 (.tmp 104), none⟩, .any),
                            (⟨(some 106), .lenS (.tmp 105), none⟩, (.int .i64)),
                            (⟨(some 13), .move (.tmp 106), none⟩, (.int .i64))]) <|
                        .block 14 <|
                          .loop [(13, (.int .i64))] <|
                            .seq (.seq (.reg [(⟨(some 107), .move (.tmp 13), none⟩, (.int .i64)),
                                  (⟨(some 108), .move (.tmp 12), none⟩, .any),
                                  (⟨(some 109), .lenS (.tmp 108), none⟩, (.int .i64)),
                                  (⟨(some 110), .bin .lss (.tmp 107) (.tmp 109), none⟩, .bool)]) <|
                              .cond (.tmp 110)
                                (.skip)
                                (.exit 14)) <|
                            .seq (.block 15 <|
                                .seq (.reg [(⟨(some 113), .move (.tmp 12), none⟩, .any),
                                    (⟨(some 114), .move (.tmp 13), none⟩, (.int .i64)),
                                    (⟨(some 115), .idxSlice 1 (.tmp 113) (.tmp 114), none⟩, .ptr),
                                    (⟨(some 116), .loadS false 1 (.tmp 115), none⟩, (.int .i64)),
                                    (⟨(some 117), .move (.tmp 9), none⟩, (.int .i64)),
                                    (⟨(some 118), .bin .sub (.const (.int .i64 (-1001))) (.tmp 117), none⟩, (.int .i64)),
                                    (⟨(some 119), .bin .neq (.tmp 116) (.tmp 118), none⟩, .bool)]) <|
                                .cond (.tmp 119)
                                  (.seq (.reg [(⟨(some 2), .move (.const (.bool false)), none⟩, .bool)]) <|
                                  .ret)
                                  (.skip)) <|
                            .reg [(⟨(some 111), .move (.tmp 13), none⟩, (.int .i64)),
                              (⟨(some 112), .bin .add (.tmp 111) (.const (.int .i64 1)), none⟩, (.int .i64)),
                              (⟨(some 13), .move (.tmp 112), none⟩, (.int .i64))]) <|
                  .reg [(⟨(some 93), .move (.tmp 11), none⟩, (.int .i64)),
                    (⟨(some 94), .bin .add (.tmp 93) (.const (.int .i64 1)), none⟩, (.int .i64)),
                    (⟨(some 11), .move (.tmp 94), none⟩, (.int .i64))]) <|
        .reg [(⟨(some 70), .move (.tmp 9), none⟩, (.int .i64)),
          (⟨(some 71), .bin .add (.tmp 70) (.const (.int .i64 1)), none⟩, (.int .i64)),
          (⟨(some 9), .move (.tmp 71), none⟩, (.int .i64))]) <|
  .seq (.reg [(⟨(some 2), .move (.const (.bool true)), none⟩, .bool)]) <|
  .ret
def f_wicketlaw05_Apart_L13 (n : Nat) (u0 : Value) (v1 : Int) (v4 : Int) (h5 : Heap) : Option (((Int × Unit) × Heap) ⊕ ((Unit) × Heap)) :=
  (ixB 1 u0 v1).bind fun q6 =>
  (ldTS .any h5 (some q6)).bind fun x7 =>
  (lenB x7).bind fun n8 =>
  bif (decide (v4 < (n8 : Int))) then
    ((ixB 1 u0 v1).bind fun q9 =>
    (ldTS .any h5 (some q9)).bind fun x10 =>
    (ixB 1 x10 v4).bind fun q11 =>
    (stB 1 (.int .i64 (IntKind.i64.wrap ((-1) - v1))) h5 (some q11)).bind fun h12 =>
    some (.inl (((IntKind.i64.wrap (v4 + 1)), ()), h12)))
  else
    (some (.inr ((), h5)))
def f_wicketlaw05_Apart_L15 (n : Nat) (u0 : Value) (v1 : Int) (h2 : Heap) : Option (((Int × Unit) × Heap) ⊕ ((Unit) × Heap)) :=
  (lenB u0).bind fun n3 =>
  bif (decide (v1 < (n3 : Int))) then
    (((loopT (fun a => f_wicketlaw05_Apart_L13 n u0 v1 a.1.1 a.2) n ((0, ()), h2)) : Option ((Unit) × Heap)).bind fun a14 =>
    some (.inl (((IntKind.i64.wrap (v1 + 1)), ()), a14.2)))
  else
    (some (.inr ((), h2)))
def f_wicketlaw05_Apart_L34 (n : Nat) (v18 : Int) (v23 : Value) (v24 : Value) (v25 : Int) (h26 : Heap) : Option (((Value × Value × Int × Unit) × Heap) ⊕ ((Value × Value × Unit) × Heap)) :=
  bif (decide (v25 < 80)) then
    ((((fillL [(.int .i64 0)] [(0, 1, (.int .i64 (IntKind.i64.wrap ((-1001) - v18))))]).bind fun cs27 =>
      bnd ((Heap.new h26 (.cells cs27 false 1))) fun h28 =>
      (appendSK h28 8 1 v24 (.slice (some ⟨Heap.next h26, 0, some 0⟩) 1 1)).bind fun p29 =>
      bif (decide (v25 < 16)) then
        ((fillL [(.slice none 0 0)] [(0, 1, p29.1)]).bind fun cs30 =>
        bnd ((Heap.new p29.2 (.cells cs30 false 1))) fun h31 =>
        (appendSK h31 24 1 v23 (.slice (some ⟨Heap.next p29.2, 0, some 0⟩) 1 1)).bind fun p32 =>
        some ((p32.1, (p29.1, ())), p32.2))
      else
        (some ((v23, (p29.1, ())), p29.2))) : Option ((Value × Value × Unit) × Heap)).bind fun a33 =>
    some (.inl ((a33.1.1, (a33.1.2.1, ((IntKind.i64.wrap (v25 + 1)), ()))), a33.2)))
  else
    (some (.inr ((v23, (v24, ())), h26)))
def f_wicketlaw05_Apart_L40 (n : Nat) (u0 : Value) (v17 : Value) (v18 : Int) (h19 : Heap) : Option (((Value × Int × Unit) × Heap) ⊕ ((Value × Unit) × Heap)) :=
  (lenB u0).bind fun n20 =>
  bif (decide (v18 < (n20 : Int))) then
    ((((ixB 1 u0 v18).bind fun q21 =>
      (ldTS .any h19 (some q21)).bind fun x22 =>
      ((loopT (fun a => f_wicketlaw05_Apart_L34 n v18 a.1.1 a.1.2.1 a.1.2.2.1 a.2) n ((v17, (x22, (0, ()))), h19)) : Option ((Value × Value × Unit) × Heap)).bind fun a35 =>
      (fillL [(.slice none 0 0)] [(0, 1, a35.1.2.1)]).bind fun cs36 =>
      bnd ((Heap.new a35.2 (.cells cs36 false 1))) fun h37 =>
      (appendSK h37 24 1 a35.1.1 (.slice (some ⟨Heap.next a35.2, 0, some 0⟩) 1 1)).bind fun p38 =>
      some ((p38.1, ()), p38.2)) : Option ((Value × Unit) × Heap)).bind fun a39 =>
    some (.inl ((a39.1.1, ((IntKind.i64.wrap (v18 + 1)), ())), a39.2)))
  else
    (some (.inr ((v17, ()), h19)))
def f_wicketlaw05_Apart_L56 (n : Nat) (u0 : Value) (v42 : Int) (v47 : Int) (h48 : Heap) : Option (((Int × Unit) × Heap) ⊕ (((Unit) × Heap) ⊕ (((Unit) × Heap) ⊕ (((Int × Unit) × Heap) ⊕ ((Bool × Unit) × Heap))))) :=
  (ixB 1 u0 v42).bind fun q49 =>
  (ldTS .any h48 (some q49)).bind fun x50 =>
  (lenB x50).bind fun n51 =>
  bif (decide (v47 < (n51 : Int))) then
    ((ixB 1 u0 v42).bind fun q52 =>
    (ldTS .any h48 (some q52)).bind fun x53 =>
    (ixB 1 x53 v47).bind fun q54 =>
    (ldTS (.int .i64) h48 (some q54)).bind fun x55 =>
    bif (!decide (x55 = (IntKind.i64.wrap ((-1) - v42)))) then
      (some (.inr (.inr (.inr (.inr ((false, ()), h48))))))
    else
      (some (.inl (((IntKind.i64.wrap (v47 + 1)), ()), h48))))
  else
    (some (.inr (.inl ((), h48))))
def f_wicketlaw05_Apart_C57 (n : Nat) (u0 : Value) (v42 : Int) (h46 : Heap) : Option (((Unit) × Heap) ⊕ (((Unit) × Heap) ⊕ (((Int × Unit) × Heap) ⊕ ((Bool × Unit) × Heap)))) :=
  loopT (fun a => f_wicketlaw05_Apart_L56 n u0 v42 a.1.1 a.2) n ((0, ()), h46)
def f_wicketlaw05_Apart_L72 (n : Nat) (v42 : Int) (x63 : Value) (v67 : Int) (h68 : Heap) : Option (((Int × Unit) × Heap) ⊕ (((Unit) × Heap) ⊕ (((Int × Unit) × Heap) ⊕ (((Unit) × Heap) ⊕ (((Int × Unit) × Heap) ⊕ ((Bool × Unit) × Heap)))))) :=
  (lenB x63).bind fun n69 =>
  bif (decide (v67 < (n69 : Int))) then
    ((ixB 1 x63 v67).bind fun q70 =>
    (ldTS (.int .i64) h68 (some q70)).bind fun x71 =>
    bif (!decide (x71 = (IntKind.i64.wrap ((-1001) - v42)))) then
      (some (.inr (.inr (.inr (.inr (.inr ((false, ()), h68)))))))
    else
      (some (.inl (((IntKind.i64.wrap (v67 + 1)), ()), h68))))
  else
    (some (.inr (.inl ((), h68))))
def f_wicketlaw05_Apart_C73 (n : Nat) (u0 : Value) (a41 : ((Value × Unit) × Heap)) (v42 : Int) (v59 : Int) (h61 : Heap) : Option (((Unit) × Heap) ⊕ (((Int × Unit) × Heap) ⊕ (((Unit) × Heap) ⊕ (((Int × Unit) × Heap) ⊕ ((Bool × Unit) × Heap))))) :=
  (ixB 1 a41.1.1 (IntKind.i64.wrap ((IntKind.i64.wrap (17 * v42)) + v59))).bind fun q62 =>
  (ldTS .any h61 (some q62)).bind fun x63 =>
  (ixB 1 u0 v42).bind fun q64 =>
  (ldTS .any h61 (some q64)).bind fun x65 =>
  (lenB x65).bind fun n66 =>
  loopT (fun a => f_wicketlaw05_Apart_L72 n v42 x63 a.1.1 a.2) n (((n66 : Int), ()), h61)
def f_wicketlaw05_Apart_L75 (n : Nat) (u0 : Value) (a41 : ((Value × Unit) × Heap)) (v42 : Int) (v59 : Int) (h60 : Heap) : Option (((Int × Unit) × Heap) ⊕ (((Unit) × Heap) ⊕ (((Int × Unit) × Heap) ⊕ ((Bool × Unit) × Heap)))) :=
  bif (decide (v59 < 17)) then
    (thenB (f_wicketlaw05_Apart_C73 n u0 a41 v42 v59 (h60)) fun a74 =>
    some (.inl (((IntKind.i64.wrap (v59 + 1)), ()), a74.2)))
  else
    (some (.inr (.inl ((), h60))))
def f_wicketlaw05_Apart_C76 (n : Nat) (u0 : Value) (a41 : ((Value × Unit) × Heap)) (v42 : Int) (h45 : Heap) : Option (((Unit) × Heap) ⊕ (((Int × Unit) × Heap) ⊕ ((Bool × Unit) × Heap))) :=
  thenB (f_wicketlaw05_Apart_C57 n u0 v42 (h45)) fun a58 =>
  loopT (fun a => f_wicketlaw05_Apart_L75 n u0 a41 v42 a.1.1 a.2) n ((0, ()), a58.2)
def f_wicketlaw05_Apart_L78 (n : Nat) (u0 : Value) (a41 : ((Value × Unit) × Heap)) (v42 : Int) (h43 : Heap) : Option (((Int × Unit) × Heap) ⊕ ((Bool × Unit) × Heap)) :=
  (lenB u0).bind fun n44 =>
  bif (decide (v42 < (n44 : Int))) then
    (thenB (f_wicketlaw05_Apart_C76 n u0 a41 v42 (h43)) fun a77 =>
    some (.inl (((IntKind.i64.wrap (v42 + 1)), ()), a77.2)))
  else
    (some (.inr ((true, ()), h43)))
noncomputable def sf_wicketlaw05_Apart (n : Nat) : Sf := sfOf []
noncomputable def it_wicketlaw05_Apart (n : Nat) : It := itOf []
def f_wicketlaw05_Apart (n : Nat) (u0 : Value) (h : Heap) : Option ((Bool × Unit) × Heap) :=
  bnd ((clrH h)) fun h0 =>
  ((loopT (fun a => f_wicketlaw05_Apart_L15 n u0 a.1.1 a.2) n ((0, ()), h0)) : Option ((Unit) × Heap)).bind fun a16 =>
  ((loopT (fun a => f_wicketlaw05_Apart_L40 n u0 a.1.1 a.1.2.1 a.2) n (((.slice none 0 0), (0, ())), a16.2)) : Option ((Value × Unit) × Heap)).bind fun a41 =>
  loopT (fun a => f_wicketlaw05_Apart_L78 n u0 a41 a.1.1 a.2) n ((0, ()), a41.2)
def rs_wicketlaw05_Apart : Rs := [(.tmp 2, .bool)]
def ps_wicketlaw05_Apart : List Ty := [.any]
theorem e_wicketlaw05_Apart (n : Nat) (u0 : Value) (h : Heap) : f_wicketlaw05_Apart n u0 h = fB (sf_wicketlaw05_Apart n) (it_wicketlaw05_Apart n) n c2_wicketlaw05_Apart rs_wicketlaw05_Apart ps_wicketlaw05_Apart (u0, ()) h := by kernel_rfl
noncomputable def s_wicketlaw05_Apart (n : Nat) : Sf1 := mkSf ps_wicketlaw05_Apart rs_wicketlaw05_Apart fun a h => f_wicketlaw05_Apart n a.1 h

/- slices.Clone[[]int,int] -/
def c2_slices_Clone_int_int : C2 :=
  .seq (.reg [(⟨(some 2), .move (.const (.slice none 0 0)), none⟩, .any)]) <|
  .seq (.seq (.reg [(⟨(some 3), .move (.tmp 0), none⟩, .any),
        (⟨(some 4), .eqv false .slice (.tmp 3) (.const (.slice none 0 0)), none⟩, .bool)]) <|
    .cond (.tmp 4)
      (.seq (.reg [(⟨(some 2), .move (.const (.slice none 0 0)), none⟩, .any)]) <|
      .ret)
      (.skip)) <|
  .seq (.reg [(⟨(some 5), .buildSlice 0 1 [] [], none⟩, .any),
      (⟨(some 6), .move (.tmp 0), none⟩, .any),
      (⟨(some 7), .append 8 1 (.tmp 5) (.tmp 6), none⟩, .any),
      (⟨(some 2), .move (.tmp 7), none⟩, .any)]) <|
  .ret
noncomputable def sf_slices_Clone_int_int (n : Nat) : Sf := sfOf []
noncomputable def it_slices_Clone_int_int (n : Nat) : It := itOf []
def f_slices_Clone_int_int (n : Nat) (u0 : Value) (h : Heap) : Option ((Value × Unit) × Heap) :=
  (eqVals h .slice u0 (.slice none 0 0)).bind fun b0 =>
  bif b0 then
    (some (((.slice none 0 0), ()), h))
  else
    ((fillL [] []).bind fun cs1 =>
    bnd ((Heap.new h (.cells cs1 false 1))) fun h2 =>
    (appendK h2 8 1 (.slice (some ⟨Heap.next h, 0, some 0⟩) 0 0) u0).bind fun p3 =>
    bif !isTuple p3.1 then
      (some ((p3.1, ()), p3.2))
    else
      (none))
def rs_slices_Clone_int_int : Rs := [(.tmp 2, .any)]
def ps_slices_Clone_int_int : List Ty := [.any]
theorem e_slices_Clone_int_int (n : Nat) (u0 : Value) (h : Heap) : f_slices_Clone_int_int n u0 h = fB (sf_slices_Clone_int_int n) (it_slices_Clone_int_int n) n c2_slices_Clone_int_int rs_slices_Clone_int_int ps_slices_Clone_int_int (u0, ()) h := by kernel_rfl
noncomputable def s_slices_Clone_int_int (n : Nat) : Sf1 := mkSf ps_slices_Clone_int_int rs_slices_Clone_int_int fun a h => f_slices_Clone_int_int n a.1 h

/- slices.Clip[[]int,int] -/
def c2_slices_Clip_int_int : C2 :=
  .seq (.reg [(⟨(some 2), .move (.const (.slice none 0 0)), none⟩, .any)]) <|
  .seq (.reg [(⟨(some 3), .move (.tmp 0), none⟩, .any),
      (⟨(some 4), .move (.tmp 0), none⟩, .any),
      (⟨(some 5), .lenS (.tmp 4), none⟩, (.int .i64)),
      (⟨(some 6), .move (.tmp 0), none⟩, .any),
      (⟨(some 7), .lenS (.tmp 6), none⟩, (.int .i64)),
      (⟨(some 8), .slice 1 (.tmp 3) none (some (.tmp 5)) (some (.tmp 7)), none⟩, .any),
      (⟨(some 2), .move (.tmp 8), none⟩, .any)]) <|
  .ret
noncomputable def sf_slices_Clip_int_int (n : Nat) : Sf := sfOf []
noncomputable def it_slices_Clip_int_int (n : Nat) : It := itOf []
def f_slices_Clip_int_int (n : Nat) (u0 : Value) (h : Heap) : Option ((Value × Unit) × Heap) :=
  (lenB u0).bind fun n0 =>
  (lenB u0).bind fun n1 =>
  (sliceK h 1 none (some (.int .i64 (n0 : Int))) (some (.int .i64 (n1 : Int))) u0).bind fun p2 =>
  bif !isTuple p2.1 then
    (some ((p2.1, ()), h))
  else
    (none)
def rs_slices_Clip_int_int : Rs := [(.tmp 2, .any)]
def ps_slices_Clip_int_int : List Ty := [.any]
theorem e_slices_Clip_int_int (n : Nat) (u0 : Value) (h : Heap) : f_slices_Clip_int_int n u0 h = fB (sf_slices_Clip_int_int n) (it_slices_Clip_int_int n) n c2_slices_Clip_int_int rs_slices_Clip_int_int ps_slices_Clip_int_int (u0, ()) h := by kernel_rfl
noncomputable def s_slices_Clip_int_int (n : Nat) : Sf1 := mkSf ps_slices_Clip_int_int rs_slices_Clip_int_int fun a h => f_slices_Clip_int_int n a.1 h

/- slices.Compact[[]int,int] -/
def c2_slices_Compact_int_int : C2 :=
  .seq (.reg [(⟨(some 2), .move (.const (.slice none 0 0)), none⟩, .any)]) <|
  .seq (.seq (.reg [(⟨(some 6), .move (.tmp 0), none⟩, .any),
        (⟨(some 7), .lenS (.tmp 6), none⟩, (.int .i64)),
        (⟨(some 8), .bin .lss (.tmp 7) (.const (.int .i64 2)), none⟩, .bool)]) <|
    .cond (.tmp 8)
      (.seq (.reg [(⟨(some 9), .move (.tmp 0), none⟩, .any),
          (⟨(some 2), .move (.tmp 9), none⟩, .any)]) <|
      .ret)
      (.skip)) <|
  .seq (.seq (.reg [(⟨(some 3), .move (.const (.int .i64 1)), none⟩, (.int .i64))]) <|
    .block 0 <|
      .loop [(3, (.int .i64))] <|
        .seq (.seq (.reg [(⟨(some 10), .move (.tmp 3), none⟩, (.int .i64)),
              (⟨(some 11), .move (.tmp 0), none⟩, .any),
              (⟨(some 12), .lenS (.tmp 11), none⟩, (.int .i64)),
              (⟨(some 13), .bin .lss (.tmp 10) (.tmp 12), none⟩, .bool)]) <|
          .cond (.tmp 13)
            (.skip)
            (.exit 0)) <|
        .seq (.cut [(3, (.int .i64))] <|
            .block 1 <|
              .seq (.regd [(⟨0, [], false, ⟨(some 16), .move (.tmp 0), none⟩⟩, .any),
                  (⟨1, [], false, ⟨(some 17), .move (.tmp 3), none⟩⟩, (.int .i64)),
                  (⟨2, [0, 1], false, ⟨(some 18), .idxSlice 1 (.tmp 16) (.tmp 17), none⟩⟩, .ptr),
                  (⟨3, [2, 0, 1], false, ⟨(some 19), .load false 1 (.tmp 18), none⟩⟩, (.int .i64)),
                  (⟨4, [], false, ⟨(some 20), .move (.tmp 0), none⟩⟩, .any),
                  (⟨5, [], false, ⟨(some 21), .move (.tmp 3), none⟩⟩, (.int .i64)),
                  (⟨6, [5], false, ⟨(some 22), .bin .sub (.tmp 21) (.const (.int .i64 1)), none⟩⟩, (.int .i64)),
                  (⟨7, [4, 6, 5], false, ⟨(some 23), .idxSlice 1 (.tmp 20) (.tmp 22), none⟩⟩, .ptr),
                  (⟨8, [7, 4, 6, 5], false, ⟨(some 24), .load false 1 (.tmp 23), none⟩⟩, (.int .i64)),
                  (⟨9, [3, 8, 2, 0, 1, 7, 4, 6, 5], false, ⟨(some 25), .bin .eql (.tmp 19) (.tmp 24), none⟩⟩, .bool)]) <|
              .cond (.tmp 25)
                (.seq (.reg [(⟨(some 26), .move (.tmp 0), none⟩, .any),
                    (⟨(some 27), .move (.tmp 3), none⟩, (.int .i64)),
                    (⟨(some 28), .slice 1 (.tmp 26) (some (.tmp 27)) none none, none⟩, .any),
                    (⟨(some 4), .move (.tmp 28), none⟩, .any)]) <|
                .seq (.cutn [(3, (.int .i64))] <|
                    .seq (.reg [(⟨(some 5), .move (.const (.int .i64 1)), none⟩, (.int .i64))]) <|
                    .block 2 <|
                      .loop [(3, (.int .i64)), (5, (.int .i64))] <|
                        .seq (.seq (.reg [(⟨(some 29), .move (.tmp 5), none⟩, (.int .i64)),
                              (⟨(some 30), .move (.tmp 4), none⟩, .any),
                              (⟨(some 31), .lenS (.tmp 30), none⟩, (.int .i64)),
                              (⟨(some 32), .bin .lss (.tmp 29) (.tmp 31), none⟩, .bool)]) <|
                          .cond (.tmp 32)
                            (.skip)
                            (.exit 2)) <|
                        .seq (.cutn [(3, (.int .i64))] <|
                            .block 3 <|
                              .seq (.regd [(⟨0, [], false, ⟨(some 35), .move (.tmp 4), none⟩⟩, .any),
                                  (⟨1, [], false, ⟨(some 36), .move (.tmp 5), none⟩⟩, (.int .i64)),
                                  (⟨2, [0, 1], false, ⟨(some 37), .idxSlice 1 (.tmp 35) (.tmp 36), none⟩⟩, .ptr),
                                  (⟨3, [2, 0, 1], false, ⟨(some 38), .load false 1 (.tmp 37), none⟩⟩, (.int .i64)),
                                  (⟨4, [], false, ⟨(some 39), .move (.tmp 4), none⟩⟩, .any),
                                  (⟨5, [], false, ⟨(some 40), .move (.tmp 5), none⟩⟩, (.int .i64)),
                                  (⟨6, [5], false, ⟨(some 41), .bin .sub (.tmp 40) (.const (.int .i64 1)), none⟩⟩, (.int .i64)),
                                  (⟨7, [4, 6, 5], false, ⟨(some 42), .idxSlice 1 (.tmp 39) (.tmp 41), none⟩⟩, .ptr),
                                  (⟨8, [7, 4, 6, 5], false, ⟨(some 43), .load false 1 (.tmp 42), none⟩⟩, (.int .i64)),
                                  (⟨9, [3, 8, 2, 0, 1, 7, 4, 6, 5], false, ⟨(some 44), .bin .neq (.tmp 38) (.tmp 43), none⟩⟩, .bool)]) <|
                              .cond (.tmp 44)
                                (.seq (.reg [(⟨(some 45), .move (.tmp 0), none⟩, .any),
                                    (⟨(some 46), .move (.tmp 3), none⟩, (.int .i64)),
                                    (⟨(some 47), .move (.tmp 4), none⟩, .any),
                                    (⟨(some 48), .move (.tmp 5), none⟩, (.int .i64)),
                                    (⟨(some 49), .idxSlice 1 (.tmp 47) (.tmp 48), none⟩, .ptr),
                                    (⟨(some 50), .load false 1 (.tmp 49), none⟩, (.int .i64)),
                                    (⟨(some 51), .idxSlice 1 (.tmp 45) (.tmp 46), none⟩, .ptr),
                                    (⟨none, .store 1 (.tmp 51) (.tmp 50), none⟩, .any)]) <|
                                .reg [(⟨(some 52), .move (.tmp 3), none⟩, (.int .i64)),
                                  (⟨(some 53), .bin .add (.tmp 52) (.const (.int .i64 1)), none⟩, (.int .i64)),
                                  (⟨(some 3), .move (.tmp 53), none⟩, (.int .i64))])
                                (.skip)) <|
                        .reg [(⟨(some 33), .move (.tmp 5), none⟩, (.int .i64)),
                          (⟨(some 34), .bin .add (.tmp 33) (.const (.int .i64 1)), none⟩, (.int .i64)),
                          (⟨(some 5), .move (.tmp 34), none⟩, (.int .i64))]) <|
                .seq (.reg [(⟨(some 54), .move (.tmp 0), none⟩, .any),
                    (⟨(some 55), .move (.tmp 3), none⟩, (.int .i64)),
                    (⟨(some 56), .slice 1 (.tmp 54) (some (.tmp 55)) none none, none⟩, .any),
                    (⟨none, .clear [(.int .i64 0)] (.tmp 56), none⟩, .any)]) <|
                .seq (.reg [(⟨(some 57), .move (.tmp 0), none⟩, .any),
                    (⟨(some 58), .move (.tmp 3), none⟩, (.int .i64)),
                    (⟨(some 59), .slice 1 (.tmp 57) none (some (.tmp 58)) none, none⟩, .any),
                    (⟨(some 2), .move (.tmp 59), none⟩, .any)]) <|
                .ret)
                (.skip)) <|
        .reg [(⟨(some 14), .move (.tmp 3), none⟩, (.int .i64)),
          (⟨(some 15), .bin .add (.tmp 14) (.const (.int .i64 1)), none⟩, (.int .i64)),
          (⟨(some 3), .move (.tmp 15), none⟩, (.int .i64))]) <|
  .seq (.reg [(⟨(some 60), .move (.tmp 0), none⟩, .any),
      (⟨(some 2), .move (.tmp 60), none⟩, .any)]) <|
  .ret
def f_slices_Compact_int_int_L23 (n : Nat) (u0 : Value) (p9 : (Value × Heap)) (v10 : Int) (v11 : Int) (h12 : Heap) : Option (((Int × Int × Unit) × Heap) ⊕ ((Int × Unit) × Heap)) :=
  (lenB p9.1).bind fun n13 =>
  bif (decide (v11 < (n13 : Int))) then
    ((((ixB 1 p9.1 v11).bind fun q14 =>
      (ldT (.int .i64) h12 (some q14)).bind fun x15 =>
      (ixB 1 p9.1 (IntKind.i64.wrap (v11 - 1))).bind fun q16 =>
      (ldT (.int .i64) h12 (some q16)).bind fun x17 =>
      bif (!decide (x15 = x17)) then
        ((ixB 1 p9.1 v11).bind fun q18 =>
        (ldT (.int .i64) h12 (some q18)).bind fun x19 =>
        (ixB 1 u0 v10).bind fun q20 =>
        (stB 1 (.int .i64 x19) h12 (some q20)).bind fun h21 =>
        some (((IntKind.i64.wrap (v10 + 1)), ()), h21))
      else
        (some ((v10, ()), h12))) : Option ((Int × Unit) × Heap)).bind fun a22 =>
    some (.inl ((a22.1.1, ((IntKind.i64.wrap (v11 + 1)), ())), a22.2)))
  else
    (some (.inr ((v10, ()), h12)))
def f_slices_Compact_int_int_C28 (n : Nat) (u0 : Value) (v1 : Int) (h4 : Heap) : Option (((Int × Unit) × Heap) ⊕ (((Int × Unit) × Heap) ⊕ ((Value × Unit) × Heap))) :=
  (ixB 1 u0 v1).bind fun q5 =>
  (ldT (.int .i64) h4 (some q5)).bind fun x6 =>
  (ixB 1 u0 (IntKind.i64.wrap (v1 - 1))).bind fun q7 =>
  (ldT (.int .i64) h4 (some q7)).bind fun x8 =>
  bif (decide (x6 = x8)) then
    ((sliceK h4 1 (some (.int .i64 v1)) none none u0).bind fun p9 =>
    ((loopT (fun a => f_slices_Compact_int_int_L23 n u0 p9 a.1.1 a.1.2.1 a.2) n ((v1, (1, ())), h4)) : Option ((Int × Unit) × Heap)).bind fun a24 =>
    (sliceK a24.2 1 (some (.int .i64 a24.1.1)) none none u0).bind fun p25 =>
    (clearK a24.2 [(.int .i64 0)] p25.1).bind fun p26 =>
    (sliceK p26.2 1 none (some (.int .i64 a24.1.1)) none u0).bind fun p27 =>
    Option.map Sum.inr (Option.map Sum.inr (bif !isTuple p27.1 then
      (some ((p27.1, ()), p26.2))
    else
      (none))))
  else
    (some (.inl ((v1, ()), h4)))
def f_slices_Compact_int_int_L30 (n : Nat) (u0 : Value) (v1 : Int) (h2 : Heap) : Option (((Int × Unit) × Heap) ⊕ ((Value × Unit) × Heap)) :=
  (lenB u0).bind fun n3 =>
  bif (decide (v1 < (n3 : Int))) then
    (thenB (f_slices_Compact_int_int_C28 n u0 v1 (h2)) fun a29 =>
    some (.inl (((IntKind.i64.wrap (a29.1.1 + 1)), ()), a29.2)))
  else
    (Option.map Sum.inr (bif !isTuple u0 then
      (some ((u0, ()), h2))
    else
      (none)))
noncomputable def sf_slices_Compact_int_int (n : Nat) : Sf := sfOf []
noncomputable def it_slices_Compact_int_int (n : Nat) : It := itOf []
def f_slices_Compact_int_int (n : Nat) (u0 : Value) (h : Heap) : Option ((Value × Unit) × Heap) :=
  (lenB u0).bind fun n0 =>
  bif (decide ((n0 : Int) < 2)) then
    (bif !isTuple u0 then
      (some ((u0, ()), h))
    else
      (none))
  else
    (loopT (fun a => f_slices_Compact_int_int_L30 n u0 a.1.1 a.2) n ((1, ()), h))
def rs_slices_Compact_int_int : Rs := [(.tmp 2, .any)]
def ps_slices_Compact_int_int : List Ty := [.any]
theorem e_slices_Compact_int_int (n : Nat) (u0 : Value) (h : Heap) : f_slices_Compact_int_int n u0 h = fB (sf_slices_Compact_int_int n) (it_slices_Compact_int_int n) n c2_slices_Compact_int_int rs_slices_Compact_int_int ps_slices_Compact_int_int (u0, ()) h := by kernel_rfl
noncomputable def s_slices_Compact_int_int (n : Nat) : Sf1 := mkSf ps_slices_Compact_int_int rs_slices_Compact_int_int fun a h => f_slices_Compact_int_int n a.1 h

/- slices.Index[[]int,int] -/
def c2_slices_Index_int_int : C2 :=
  .seq (.reg [(⟨(some 4), .move (.const (.int .i64 0)), none⟩, (.int .i64))]) <|
  .seq (.seq (.reg [(⟨(some 6), .move (.tmp 0), none⟩, .any),
        (⟨(some 7), .lenS (.tmp 6), none⟩, (.int .i64)),
        (⟨(some 8), .move (.const (.int .i64 0)), none⟩, (.int .i64))]) <|
    .block 0 <|
      .loop [(8, (.int .i64))] <|
        .seq (.reg [(⟨(some 9), .bin .lss (.tmp 8) (.tmp 7), none⟩, .any)]) <|
        .seq (.cond (.tmp 9)
            (.skip)
            (.exit 0)) <|
        .seq (.block 1 <|
            .seq (.reg [(⟨(some 10), .move (.tmp 8), none⟩, (.int .i64)),
                (⟨(some 5), .move (.tmp 10), none⟩, (.int .i64))]) <|
            .seq (.reg [(⟨(some 11), .move (.tmp 1), none⟩, (.int .i64)),
                (⟨(some 12), .move (.tmp 0), none⟩, .any),
                (⟨(some 13), .move (.tmp 5), none⟩, (.int .i64)),
                (⟨(some 14), .idxSlice 1 (.tmp 12) (.tmp 13), none⟩, .ptr),
                (⟨(some 15), .load false 1 (.tmp 14), none⟩, (.int .i64)),
                (⟨(some 16), .bin .eql (.tmp 11) (.tmp 15), none⟩, .bool)]) <|
            .cond (.tmp 16)
              (.seq (.reg [(⟨(some 17), .move (.tmp 5), none⟩, (.int .i64)),
                  (⟨(some 4), .move (.tmp 17), none⟩, (.int .i64))]) <|
              .ret)
              (.skip)) <|
        .reg [(⟨(some 18), .bin .add (.tmp 8) (.const (.int .i64 1)), none⟩, (.int .i64)),
          (⟨(some 8), .move (.tmp 18), none⟩, (.int .i64))]) <|
  .seq (.reg [(⟨(some 4), .move (.const (.int .i64 (-1))), none⟩, (.int .i64))]) <|
  .ret
def f_slices_Index_int_int_L5 (n : Nat) (u1 : Int) (u0 : Value) (n0 : Nat) (v1 : Int) (h2 : Heap) : Option (((Int × Unit) × Heap) ⊕ ((Int × Unit) × Heap)) :=
  bif (decide (v1 < (n0 : Int))) then
    ((ixB 1 u0 v1).bind fun q3 =>
    (ldT (.int .i64) h2 (some q3)).bind fun x4 =>
    bif (decide (u1 = x4)) then
      (some (.inr ((v1, ()), h2)))
    else
      (some (.inl (((IntKind.i64.wrap (v1 + 1)), ()), h2))))
  else
    (some (.inr (((-1), ()), h2)))
noncomputable def sf_slices_Index_int_int (n : Nat) : Sf := sfOf []
noncomputable def it_slices_Index_int_int (n : Nat) : It := itOf []
def f_slices_Index_int_int (n : Nat) (u0 : Value) (u1 : Int) (h : Heap) : Option ((Int × Unit) × Heap) :=
  (lenB u0).bind fun n0 =>
  loopT (fun a => f_slices_Index_int_int_L5 n u1 u0 n0 a.1.1 a.2) n ((0, ()), h)
def rs_slices_Index_int_int : Rs := [(.tmp 4, (.int .i64))]
def ps_slices_Index_int_int : List Ty := [.any, (.int .i64)]
theorem e_slices_Index_int_int (n : Nat) (u0 : Value) (u1 : Int) (h : Heap) : f_slices_Index_int_int n u0 u1 h = fB (sf_slices_Index_int_int n) (it_slices_Index_int_int n) n c2_slices_Index_int_int rs_slices_Index_int_int ps_slices_Index_int_int (u0, (u1, ())) h := by kernel_rfl
noncomputable def s_slices_Index_int_int (n : Nat) : Sf1 := mkSf ps_slices_Index_int_int rs_slices_Index_int_int fun a h => f_slices_Index_int_int n a.1 a.2.1 h

/- wicket/wicketref05.Both -/
def c2_wicketref05_Both : C2 :=
  .seq (.reg [(⟨(some 4), .move (.const (.slice none 0 0)), none⟩, .any)]) <|
  .seq (.reg [(⟨(some 5), .move (.const (.slice none 0 0)), none⟩, .any)]) <|
  .seq (.seq (.reg [(⟨(some 6), .move (.const (.int .i64 0)), none⟩, (.int .i64))]) <|
    .block 0 <|
      .loop [(5, .any), (6, (.int .i64))] <|
        .seq (.seq (.reg [(⟨(some 8), .move (.tmp 6), none⟩, (.int .i64)),
              (⟨(some 9), .move (.tmp 0), none⟩, .any),
              (⟨(some 10), .lenS (.tmp 9), none⟩, (.int .i64)),
              (⟨(some 11), .bin .lss (.tmp 8) (.tmp 10), none⟩, .bool)]) <|
          .cond (.tmp 11)
            (.skip)
            (.exit 0)) <|
        .seq (.cutn [(5, .any)] <|
            .block 1 <|
              .seq (.seq (.cutn [(28, .bool)] <|
                    .reg [(⟨(some 14), .move (.tmp 1), none⟩, .any),
                      (⟨(some 15), .move (.tmp 0), none⟩, .any),
                      (⟨(some 16), .move (.tmp 6), none⟩, (.int .i64)),
                      (⟨(some 17), .idxSlice 1 (.tmp 15) (.tmp 16), none⟩, .ptr),
                      (⟨(some 18), .load false 1 (.tmp 17), none⟩, (.int .i64)),
                      (⟨(some 19), .call k_wicketref05_Has [(.tmp 14), (.tmp 18)], none⟩, .bool),
                      (⟨(some 20), .un .not (.tmp 19), none⟩, .bool),
                      (⟨(some 21), .move (.tmp 20), none⟩, .bool),
                      (⟨(some 22), .move (.tmp 5), some (21, false)⟩, .any),
                      (⟨(some 23), .move (.tmp 0), some (21, false)⟩, .any),
                      (⟨(some 24), .move (.tmp 6), some (21, false)⟩, (.int .i64)),
                      (⟨(some 25), .idxSlice 1 (.tmp 23) (.tmp 24), some (21, false)⟩, .ptr),
                      (⟨(some 26), .load false 1 (.tmp 25), some (21, false)⟩, (.int .i64)),
                      (⟨(some 27), .call k_wicketref05_Has [(.tmp 22), (.tmp 26)], some (21, false)⟩, .bool),
                      (⟨(some 28), .pick (.tmp 21) (.const (.bool true)) (.tmp 27), none⟩, .bool)]) <|
                .cond (.tmp 28)
                  (.exit 1)
                  (.skip)) <|
              .seq (.reg [(⟨(some 29), .move (.tmp 5), none⟩, .any),
                  (⟨(some 30), .move (.tmp 0), none⟩, .any),
                  (⟨(some 31), .move (.tmp 6), none⟩, (.int .i64)),
                  (⟨(some 32), .idxSlice 1 (.tmp 30) (.tmp 31), none⟩, .ptr),
                  (⟨(some 33), .load false 1 (.tmp 32), none⟩, (.int .i64)),
                  (⟨(some 34), .buildSlice 1 1 [(.int .i64 0)] [(0, 1, (.tmp 33))], none⟩, .any),
                  (⟨(some 35), .append 8 1 (.tmp 29) (.tmp 34), none⟩, .any),
                  (⟨(some 5), .move (.tmp 35), none⟩, .any)]) <|
              .seq (.reg [(⟨(some 36), .move (.tmp 5), none⟩, .any),
                  (⟨(some 37), .lenS (.tmp 36), none⟩, (.int .i64)),
                  (⟨(some 38), .bin .sub (.tmp 37) (.const (.int .i64 1)), none⟩, (.int .i64)),
                  (⟨(some 7), .move (.tmp 38), none⟩, (.int .i64))]) <|
              .block 2 <|
                .loop [(7, (.int .i64))] <|
                  .seq (.seq (.cutn [(52, .bool)] <|
                        .regd [(⟨0, [], false, ⟨(some 39), .move (.tmp 7), none⟩⟩, (.int .i64)),
                          (⟨1, [0], false, ⟨(some 40), .bin .gtr (.tmp 39) (.const (.int .i64 0)), none⟩⟩, .bool),
                          (⟨2, [1, 0], false, ⟨(some 41), .move (.tmp 40), none⟩⟩, .bool),
                          (⟨3, [2, 1, 0], false, ⟨(some 42), .move (.tmp 5), some (41, true)⟩⟩, .any),
                          (⟨4, [2, 1, 0], false, ⟨(some 43), .move (.tmp 7), some (41, true)⟩⟩, (.int .i64)),
                          (⟨5, [4, 2, 1, 0], false, ⟨(some 44), .bin .sub (.tmp 43) (.const (.int .i64 1)), some (41, true)⟩⟩, (.int .i64)),
                          (⟨6, [3, 5, 2, 1, 0, 4], false, ⟨(some 45), .idxSlice 1 (.tmp 42) (.tmp 44), some (41, true)⟩⟩, .ptr),
                          (⟨7, [6, 2, 3, 5, 1, 0, 4], false, ⟨(some 46), .load false 1 (.tmp 45), some (41, true)⟩⟩, (.int .i64)),
                          (⟨8, [2, 1, 0], false, ⟨(some 47), .move (.tmp 5), some (41, true)⟩⟩, .any),
                          (⟨9, [2, 1, 0], false, ⟨(some 48), .move (.tmp 7), some (41, true)⟩⟩, (.int .i64)),
                          (⟨10, [8, 9, 2, 1, 0], false, ⟨(some 49), .idxSlice 1 (.tmp 47) (.tmp 48), some (41, true)⟩⟩, .ptr),
                          (⟨11, [10, 2, 8, 9, 1, 0], false, ⟨(some 50), .load false 1 (.tmp 49), some (41, true)⟩⟩, (.int .i64)),
                          (⟨12, [7, 11, 2, 6, 3, 5, 1, 0, 4, 10, 8, 9], false, ⟨(some 51), .bin .gtr (.tmp 46) (.tmp 50), some (41, true)⟩⟩, .bool),
                          (⟨13, [2, 12, 1, 0, 7, 11, 6, 3, 5, 4, 10, 8, 9], false, ⟨(some 52), .pick (.tmp 41) (.tmp 51) (.const (.bool false)), none⟩⟩, .bool)]) <|
                    .cond (.tmp 52)
                      (.skip)
                      (.exit 2)) <|
                  .seq (.block 3 <|
                      .regd [(⟨0, [], false, ⟨(some 55), .move (.tmp 5), none⟩⟩, .any),
                        (⟨1, [], false, ⟨(some 56), .move (.tmp 7), none⟩⟩, (.int .i64)),
                        (⟨2, [1], false, ⟨(some 57), .bin .sub (.tmp 56) (.const (.int .i64 1)), none⟩⟩, (.int .i64)),
                        (⟨3, [], false, ⟨(some 58), .move (.tmp 5), none⟩⟩, .any),
                        (⟨4, [], false, ⟨(some 59), .move (.tmp 7), none⟩⟩, (.int .i64)),
                        (⟨5, [], false, ⟨(some 60), .move (.tmp 5), none⟩⟩, .any),
                        (⟨6, [], false, ⟨(some 61), .move (.tmp 7), none⟩⟩, (.int .i64)),
                        (⟨7, [5, 6], false, ⟨(some 62), .idxSlice 1 (.tmp 60) (.tmp 61), none⟩⟩, .ptr),
                        (⟨8, [7, 5, 6], false, ⟨(some 63), .load false 1 (.tmp 62), none⟩⟩, (.int .i64)),
                        (⟨9, [], false, ⟨(some 64), .move (.tmp 5), none⟩⟩, .any),
                        (⟨10, [], false, ⟨(some 65), .move (.tmp 7), none⟩⟩, (.int .i64)),
                        (⟨11, [10], false, ⟨(some 66), .bin .sub (.tmp 65) (.const (.int .i64 1)), none⟩⟩, (.int .i64)),
                        (⟨12, [9, 11, 10], false, ⟨(some 67), .idxSlice 1 (.tmp 64) (.tmp 66), none⟩⟩, .ptr),
                        (⟨13, [12, 9, 11, 10], false, ⟨(some 68), .load false 1 (.tmp 67), none⟩⟩, (.int .i64)),
                        (⟨14, [0, 2, 1, 5, 6, 7, 8, 13, 12, 9, 11, 10], false, ⟨(some 69), .idxSlice 1 (.tmp 55) (.tmp 57), none⟩⟩, .ptr),
                        (⟨15, [14, 8, 0, 1, 2, 5, 6, 7, 13, 12, 9, 11, 10], true, ⟨none, .store 1 (.tmp 69) (.tmp 63), none⟩⟩, .any),
                        (⟨16, [3, 4, 0, 1, 2, 5, 6, 7, 8, 9, 10, 11, 12, 13, 14, 15], false, ⟨(some 70), .idxSlice 1 (.tmp 58) (.tmp 59), none⟩⟩, .ptr),
                        (⟨17, [16, 13, 15, 0, 1, 2, 3, 4, 5, 6, 7, 8, 9, 10, 11, 12, 14], true, ⟨none, .store 1 (.tmp 70) (.tmp 68), none⟩⟩, .any)]) <|
                  .reg [(⟨(some 53), .move (.tmp 7), none⟩, (.int .i64)),
                    (⟨(some 54), .bin .sub (.tmp 53) (.const (.int .i64 1)), none⟩, (.int .i64)),
                    (⟨(some 7), .move (.tmp 54), none⟩, (.int .i64))]) <|
        .reg [(⟨(some 12), .move (.tmp 6), none⟩, (.int .i64)),
          (⟨(some 13), .bin .add (.tmp 12) (.const (.int .i64 1)), none⟩, (.int .i64)),
          (⟨(some 6), .move (.tmp 13), none⟩, (.int .i64))]) <|
  .seq (.reg [(⟨(some 71), .move (.tmp 5), none⟩, .any),
      (⟨(some 4), .move (.tmp 71), none⟩, .any)]) <|
  .ret
def f_wicketref05_Both_L32 (n : Nat) (p15 : (Value × Heap)) (v17 : Int) (h18 : Heap) : Option (((Int × Unit) × Heap) ⊕ ((Value × Unit) × Heap)) :=
  ((bif (decide (0 < v17)) then
      ((ixB 1 p15.1 (IntKind.i64.wrap (v17 - 1))).bind fun q19 =>
      (ldT (.int .i64) h18 (some q19)).bind fun x20 =>
      (ixB 1 p15.1 v17).bind fun q21 =>
      (ldT (.int .i64) h18 (some q21)).bind fun x22 =>
      some (((decide (x22 < x20)), ()), h18))
    else
      (some ((false, ()), h18))) : Option ((Bool × Unit) × Heap)).bind fun a23 =>
  bif a23.1.1 then
    ((ixB 1 p15.1 v17).bind fun q24 =>
    (ldT (.int .i64) a23.2 (some q24)).bind fun x25 =>
    (ixB 1 p15.1 (IntKind.i64.wrap (v17 - 1))).bind fun q26 =>
    (ldT (.int .i64) a23.2 (some q26)).bind fun x27 =>
    (ixB 1 p15.1 (IntKind.i64.wrap (v17 - 1))).bind fun q28 =>
    (stB 1 (.int .i64 x25) a23.2 (some q28)).bind fun h29 =>
    (ixB 1 p15.1 v17).bind fun q30 =>
    (stB 1 (.int .i64 x27) h29 (some q30)).bind fun h31 =>
    some (.inl (((IntKind.i64.wrap (v17 - 1)), ()), h31)))
  else
    (some (.inr ((p15.1, ()), a23.2)))
def f_wicketref05_Both_L34 (n : Nat) (u1 : Value) (u0 : Value) (v0 : Value) (v1 : Int) (h2 : Heap) : Option (((Value × Int × Unit) × Heap) ⊕ ((Value × Unit) × Heap)) :=
  (lenB u0).bind fun n3 =>
  bif (decide (v1 < (n3 : Int))) then
    ((((((ixB 1 u0 v1).bind fun q4 =>
        (ldT (.int .i64) h2 (some q4)).bind fun x5 =>
        (f_wicketref05_Has n u1 x5 h2).bind fun p6 =>
        bif (!p6.1.1) then
          (some ((true, ()), p6.2))
        else
          ((ixB 1 u0 v1).bind fun q7 =>
          (ldT (.int .i64) p6.2 (some q7)).bind fun x8 =>
          (f_wicketref05_Has n v0 x8 p6.2).bind fun p9 =>
          some ((p9.1.1, ()), p9.2))) : Option ((Bool × Unit) × Heap)).bind fun a10 =>
      bif a10.1.1 then
        (some ((v0, ()), a10.2))
      else
        ((ixB 1 u0 v1).bind fun q11 =>
        (ldT (.int .i64) a10.2 (some q11)).bind fun x12 =>
        (fillL [(.int .i64 0)] [(0, 1, (.int .i64 x12))]).bind fun cs13 =>
        bnd ((Heap.new a10.2 (.cells cs13 false 1))) fun h14 =>
        (appendK h14 8 1 v0 (.slice (some ⟨Heap.next a10.2, 0, some 0⟩) 1 1)).bind fun p15 =>
        (lenB p15.1).bind fun n16 =>
        loopT (fun a => f_wicketref05_Both_L32 n p15 a.1.1 a.2) n (((IntKind.i64.wrap ((n16 : Int) - 1)), ()), p15.2))) : Option ((Value × Unit) × Heap)).bind fun a33 =>
    some (.inl ((a33.1.1, ((IntKind.i64.wrap (v1 + 1)), ())), a33.2)))
  else
    (Option.map Sum.inr (bif !isTuple v0 then
      (some ((v0, ()), h2))
    else
      (none)))
noncomputable def sf_wicketref05_Both (n : Nat) : Sf := sfOf [(k_wicketref05_Has, s_wicketref05_Has n)]
noncomputable def it_wicketref05_Both (n : Nat) : It := itOf []
def f_wicketref05_Both (n : Nat) (u0 : Value) (u1 : Value) (h : Heap) : Option ((Value × Unit) × Heap) :=
  loopT (fun a => f_wicketref05_Both_L34 n u1 u0 a.1.1 a.1.2.1 a.2) n (((.slice none 0 0), (0, ())), h)
def rs_wicketref05_Both : Rs := [(.tmp 4, .any)]
def ps_wicketref05_Both : List Ty := [.any, .any]
theorem e_wicketref05_Both (n : Nat) (u0 : Value) (u1 : Value) (h : Heap) : f_wicketref05_Both n u0 u1 h = fB (sf_wicketref05_Both n) (it_wicketref05_Both n) n c2_wicketref05_Both rs_wicketref05_Both ps_wicketref05_Both (u0, (u1, ())) h := by kernel_rfl
noncomputable def s_wicketref05_Both (n : Nat) : Sf1 := mkSf ps_wicketref05_Both rs_wicketref05_Both fun a h => f_wicketref05_Both n a.1 a.2.1 h

/- wicket/wicketlaw05.Roomy -/
def c2_wicketlaw05_Roomy : C2 :=
  .seq (.reg [(⟨(some 2), .move (.const (.slice none 0 0)), none⟩, .any)]) <|
  .seq (.reg [(⟨(some 3), .move (.tmp 0), none⟩, .any),
      (⟨(some 4), .call k_wicketlaw05_Own [(.tmp 3)], none⟩, .any),
      (⟨(some 5), .buildSlice 2 1 [(.int .i64 0), (.int .i64 0)] [(0, 1, (.const (.int .i64 7777))), (1, 1, (.const (.int .i64 8888)))], none⟩, .any),
      (⟨(some 6), .append 8 1 (.tmp 4) (.tmp 5), none⟩, .any),
      (⟨(some 7), .move (.tmp 0), none⟩, .any),
      (⟨(some 8), .lenS (.tmp 7), none⟩, (.int .i64)),
      (⟨(some 9), .slice 1 (.tmp 6) none (some (.tmp 8)) none, none⟩, .any),
      (⟨(some 2), .move (.tmp 9), none⟩, .any)]) <|
  .ret
noncomputable def sf_wicketlaw05_Roomy (n : Nat) : Sf := sfOf [(k_wicketlaw05_Own, s_wicketlaw05_Own n)]
noncomputable def it_wicketlaw05_Roomy (n : Nat) : It := itOf []
def f_wicketlaw05_Roomy (n : Nat) (u0 : Value) (h : Heap) : Option ((Value × Unit) × Heap) :=
  (f_wicketlaw05_Own n u0 h).bind fun p0 =>
  (fillL [(.int .i64 0), (.int .i64 0)] [(0, 1, (.int .i64 7777)), (1, 1, (.int .i64 8888))]).bind fun cs1 =>
  bnd ((Heap.new p0.2 (.cells cs1 false 1))) fun h2 =>
  (appendK h2 8 1 p0.1.1 (.slice (some ⟨Heap.next p0.2, 0, some 0⟩) 2 2)).bind fun p3 =>
  (lenB u0).bind fun n4 =>
  (sliceK p3.2 1 none (some (.int .i64 (n4 : Int))) none p3.1).bind fun p5 =>
  bif !isTuple p5.1 then
    (some ((p5.1, ()), p3.2))
  else
    (none)
def rs_wicketlaw05_Roomy : Rs := [(.tmp 2, .any)]
def ps_wicketlaw05_Roomy : List Ty := [.any]
theorem e_wicketlaw05_Roomy (n : Nat) (u0 : Value) (h : Heap) : f_wicketlaw05_Roomy n u0 h = fB (sf_wicketlaw05_Roomy n) (it_wicketlaw05_Roomy n) n c2_wicketlaw05_Roomy rs_wicketlaw05_Roomy ps_wicketlaw05_Roomy (u0, ()) h := by kernel_rfl
noncomputable def s_wicketlaw05_Roomy (n : Nat) : Sf1 := mkSf ps_wicketlaw05_Roomy rs_wicketlaw05_Roomy fun a h => f_wicketlaw05_Roomy n a.1 h

/- wicket/blocks.rising -/
def c2_blocks_rising : C2 :=
  .seq (.reg [(⟨(some 2), .move (.const (.slice none 0 0)), none⟩, .any)]) <|
  .seq (.reg [(⟨(some 4), .move (.tmp 0), none⟩, .any),
      (⟨(some 5), .call k_slices_Clone_int_int [(.tmp 4)], none⟩, .any),
      (⟨(some 3), .move (.tmp 5), none⟩, .any)]) <|
  .seq (.reg [(⟨(some 6), .move (.tmp 3), none⟩, .any),
      (⟨(some 7), .call k_slices_Sort_int_int [(.tmp 6)], none⟩, .any)]) <|
  .seq (.reg [(⟨(some 8), .move (.tmp 3), none⟩, .any),
      (⟨(some 9), .call k_slices_Compact_int_int [(.tmp 8)], none⟩, .any),
      (⟨(some 10), .call k_slices_Clip_int_int [(.tmp 9)], none⟩, .any),
      (⟨(some 2), .move (.tmp 10), none⟩, .any)]) <|
  .ret
noncomputable def sf_blocks_rising (n : Nat) : Sf := sfOf [(k_slices_Clone_int_int, s_slices_Clone_int_int n), (k_slices_Sort_int_int, s_slices_Sort_int_int n), (k_slices_Compact_int_int, s_slices_Compact_int_int n), (k_slices_Clip_int_int, s_slices_Clip_int_int n)]
noncomputable def it_blocks_rising (n : Nat) : It := itOf []
def f_blocks_rising (n : Nat) (u0 : Value) (h : Heap) : Option ((Value × Unit) × Heap) :=
  (f_slices_Clone_int_int n u0 h).bind fun p0 =>
  (f_slices_Sort_int_int n p0.1.1 p0.2).bind fun p1 =>
  (f_slices_Compact_int_int n p0.1.1 p1.2).bind fun p2 =>
  (f_slices_Clip_int_int n p2.1.1 p2.2).bind fun p3 =>
  bif !isTuple p3.1.1 then
    (some ((p3.1.1, ()), p3.2))
  else
    (none)
def rs_blocks_rising : Rs := [(.tmp 2, .any)]
def ps_blocks_rising : List Ty := [.any]
theorem e_blocks_rising (n : Nat) (u0 : Value) (h : Heap) : f_blocks_rising n u0 h = fB (sf_blocks_rising n) (it_blocks_rising n) n c2_blocks_rising rs_blocks_rising ps_blocks_rising (u0, ()) h := by kernel_rfl
noncomputable def s_blocks_rising (n : Nat) : Sf1 := mkSf ps_blocks_rising rs_blocks_rising fun a h => f_blocks_rising n a.1 h

/- slices.Contains[[]int,int] -/
def c2_slices_Contains_int_int : C2 :=
  .seq (.reg [(⟨(some 4), .move (.const (.bool false)), none⟩, .bool)]) <|
  .seq (.reg [(⟨(some 5), .move (.tmp 0), none⟩, .any),
      (⟨(some 6), .move (.tmp 1), none⟩, (.int .i64)),
      (⟨(some 7), .call k_slices_Index_int_int [(.tmp 5), (.tmp 6)], none⟩, (.int .i64)),
      (⟨(some 8), .bin .geq (.tmp 7) (.const (.int .i64 0)), none⟩, .bool),
      (⟨(some 4), .move (.tmp 8), none⟩, .bool)]) <|
  .ret
noncomputable def sf_slices_Contains_int_int (n : Nat) : Sf := sfOf [(k_slices_Index_int_int, s_slices_Index_int_int n)]
noncomputable def it_slices_Contains_int_int (n : Nat) : It := itOf []
def f_slices_Contains_int_int (n : Nat) (u0 : Value) (u1 : Int) (h : Heap) : Option ((Bool × Unit) × Heap) :=
  (f_slices_Index_int_int n u0 u1 h).bind fun p0 =>
  some (((decide (0 ≤ p0.1.1)), ()), p0.2)
def rs_slices_Contains_int_int : Rs := [(.tmp 4, .bool)]
def ps_slices_Contains_int_int : List Ty := [.any, (.int .i64)]
theorem e_slices_Contains_int_int (n : Nat) (u0 : Value) (u1 : Int) (h : Heap) : f_slices_Contains_int_int n u0 u1 h = fB (sf_slices_Contains_int_int n) (it_slices_Contains_int_int n) n c2_slices_Contains_int_int rs_slices_Contains_int_int ps_slices_Contains_int_int (u0, (u1, ())) h := by kernel_rfl
noncomputable def s_slices_Contains_int_int (n : Nat) : Sf1 := mkSf ps_slices_Contains_int_int rs_slices_Contains_int_int fun a h => f_slices_Contains_int_int n a.1 a.2.1 h

/- wicket/blocks.Has -/
def c2_blocks_Has : C2 :=
  .seq (.reg [(⟨(some 4), .move (.const (.bool false)), none⟩, .bool)]) <|
  .seq (.reg [(⟨(some 5), .move (.tmp 0), none⟩, .any),
      (⟨(some 6), .move (.tmp 1), none⟩, (.int .i64)),
      (⟨(some 7), .call k_slices_Contains_int_int [(.tmp 5), (.tmp 6)], none⟩, .bool),
      (⟨(some 4), .move (.tmp 7), none⟩, .bool)]) <|
  .ret
noncomputable def sf_blocks_Has (n : Nat) : Sf := sfOf [(k_slices_Contains_int_int, s_slices_Contains_int_int n)]
noncomputable def it_blocks_Has (n : Nat) : It := itOf []
def f_blocks_Has (n : Nat) (u0 : Value) (u1 : Int) (h : Heap) : Option ((Bool × Unit) × Heap) :=
  (f_slices_Contains_int_int n u0 u1 h).bind fun p0 =>
  some ((p0.1.1, ()), p0.2)
def rs_blocks_Has : Rs := [(.tmp 4, .bool)]
def ps_blocks_Has : List Ty := [.any, (.int .i64)]
theorem e_blocks_Has (n : Nat) (u0 : Value) (u1 : Int) (h : Heap) : f_blocks_Has n u0 u1 h = fB (sf_blocks_Has n) (it_blocks_Has n) n c2_blocks_Has rs_blocks_Has ps_blocks_Has (u0, (u1, ())) h := by kernel_rfl
noncomputable def s_blocks_Has (n : Nat) : Sf1 := mkSf ps_blocks_Has rs_blocks_Has fun a h => f_blocks_Has n a.1 a.2.1 h

/- wicket/blocks.Both$1 -/
def c2_blocks_Both_1 : C2 :=
  .seq (.reg [(⟨(some 3), .move (.const (.bool false)), none⟩, .bool)]) <|
  .seq (.reg [(⟨(some 4), .load false 1 (.tmp 1), none⟩, .any),
      (⟨(some 5), .move (.tmp 0), none⟩, (.int .i64)),
      (⟨(some 6), .call k_blocks_Has [(.tmp 4), (.tmp 5)], none⟩, .bool),
      (⟨(some 7), .un .not (.tmp 6), none⟩, .bool),
      (⟨(some 3), .move (.tmp 7), none⟩, .bool)]) <|
  .ret
noncomputable def sf_blocks_Both_1 (n : Nat) : Sf := sfOf [(k_blocks_Has, s_blocks_Has n)]
noncomputable def it_blocks_Both_1 (n : Nat) : It := itOf []
def f_blocks_Both_1 (n : Nat) (u0 : Int) (u1 : Option Addr) (h : Heap) : Option ((Bool × Unit) × Heap) :=
  (ldT .any h u1).bind fun x0 =>
  (f_blocks_Has n x0 u0 h).bind fun p1 =>
  some (((!p1.1.1), ()), p1.2)
def rs_blocks_Both_1 : Rs := [(.tmp 3, .bool)]
def ps_blocks_Both_1 : List Ty := [(.int .i64), .ptr]
theorem e_blocks_Both_1 (n : Nat) (u0 : Int) (u1 : Option Addr) (h : Heap) : f_blocks_Both_1 n u0 u1 h = fB (sf_blocks_Both_1 n) (it_blocks_Both_1 n) n c2_blocks_Both_1 rs_blocks_Both_1 ps_blocks_Both_1 (u0, (u1, ())) h := by kernel_rfl
noncomputable def s_blocks_Both_1 (n : Nat) : Sf1 := mkSf ps_blocks_Both_1 rs_blocks_Both_1 fun a h => f_blocks_Both_1 n a.1 a.2.1 h

/- slices.IndexFunc[[]int,int] -/
def c2_slices_IndexFunc_int_int : C2 :=
  .seq (.reg [(⟨(some 4), .move (.const (.int .i64 0)), none⟩, (.int .i64))]) <|
  .seq (.seq (.reg [(⟨(some 6), .move (.tmp 0), none⟩, .any),
        (⟨(some 7), .lenS (.tmp 6), none⟩, (.int .i64)),
        (⟨(some 8), .move (.const (.int .i64 0)), none⟩, (.int .i64))]) <|
    .block 0 <|
      .loop [(8, (.int .i64))] <|
        .seq (.reg [(⟨(some 9), .bin .lss (.tmp 8) (.tmp 7), none⟩, .any)]) <|
        .seq (.cond (.tmp 9)
            (.skip)
            (.exit 0)) <|
        .seq (.block 1 <|
            .seq (.reg [(⟨(some 10), .move (.tmp 8), none⟩, (.int .i64)),
                (⟨(some 5), .move (.tmp 10), none⟩, (.int .i64))]) <|
            .seq (.reg [(⟨(some 11), .move (.tmp 1), none⟩, (.fn k_blocks_Both_1 1)),
                (⟨(some 12), .move (.tmp 0), none⟩, .any),
                (⟨(some 13), .move (.tmp 5), none⟩, (.int .i64)),
                (⟨(some 14), .idxSlice 1 (.tmp 12) (.tmp 13), none⟩, .ptr),
                (⟨(some 15), .load false 1 (.tmp 14), none⟩, (.int .i64)),
                (⟨(some 16), .callv (.tmp 11) [(.tmp 15)], none⟩, .bool)]) <|
            .cond (.tmp 16)
              (.seq (.reg [(⟨(some 17), .move (.tmp 5), none⟩, (.int .i64)),
                  (⟨(some 4), .move (.tmp 17), none⟩, (.int .i64))]) <|
              .ret)
              (.skip)) <|
        .reg [(⟨(some 18), .bin .add (.tmp 8) (.const (.int .i64 1)), none⟩, (.int .i64)),
          (⟨(some 8), .move (.tmp 18), none⟩, (.int .i64))]) <|
  .seq (.reg [(⟨(some 4), .move (.const (.int .i64 (-1))), none⟩, (.int .i64))]) <|
  .ret
def f_slices_IndexFunc_int_int_L6 (n : Nat) (u1 : Ptrs 1) (u0 : Value) (n0 : Nat) (v1 : Int) (h2 : Heap) : Option (((Int × Unit) × Heap) ⊕ ((Int × Unit) × Heap)) :=
  bif (decide (v1 < (n0 : Int))) then
    ((ixB 1 u0 v1).bind fun q3 =>
    (ldT (.int .i64) h2 (some q3)).bind fun x4 =>
    (f_blocks_Both_1 n x4 u1.1 h2).bind fun p5 =>
    bif p5.1.1 then
      (some (.inr ((v1, ()), p5.2)))
    else
      (some (.inl (((IntKind.i64.wrap (v1 + 1)), ()), p5.2))))
  else
    (some (.inr (((-1), ()), h2)))
noncomputable def sf_slices_IndexFunc_int_int (n : Nat) : Sf := sfOf [(k_blocks_Both_1, s_blocks_Both_1 n)]
noncomputable def it_slices_IndexFunc_int_int (n : Nat) : It := itOf []
def f_slices_IndexFunc_int_int (n : Nat) (u0 : Value) (u1 : Ptrs 1) (h : Heap) : Option ((Int × Unit) × Heap) :=
  (lenB u0).bind fun n0 =>
  loopT (fun a => f_slices_IndexFunc_int_int_L6 n u1 u0 n0 a.1.1 a.2) n ((0, ()), h)
def rs_slices_IndexFunc_int_int : Rs := [(.tmp 4, (.int .i64))]
def ps_slices_IndexFunc_int_int : List Ty := [.any, (.fn k_blocks_Both_1 1)]
theorem e_slices_IndexFunc_int_int (n : Nat) (u0 : Value) (u1 : Ptrs 1) (h : Heap) : f_slices_IndexFunc_int_int n u0 u1 h = fB (sf_slices_IndexFunc_int_int n) (it_slices_IndexFunc_int_int n) n c2_slices_IndexFunc_int_int rs_slices_IndexFunc_int_int ps_slices_IndexFunc_int_int (u0, (u1, ())) h := by kernel_rfl
noncomputable def s_slices_IndexFunc_int_int (n : Nat) : Sf1 := mkSf ps_slices_IndexFunc_int_int rs_slices_IndexFunc_int_int fun a h => f_slices_IndexFunc_int_int n a.1 a.2.1 h

/- slices.DeleteFunc[[]int,int] -/
def c2_slices_DeleteFunc_int_int : C2 :=
  .seq (.reg [(⟨(some 4), .move (.const (.slice none 0 0)), none⟩, .any)]) <|
  .seq (.reg [(⟨(some 8), .move (.tmp 0), none⟩, .any),
      (⟨(some 9), .move (.tmp 1), none⟩, (.fn k_blocks_Both_1 1)),
      (⟨(some 10), .call k_slices_IndexFunc_int_int [(.tmp 8), (.tmp 9)], none⟩, (.int .i64)),
      (⟨(some 5), .move (.tmp 10), none⟩, (.int .i64))]) <|
  .seq (.seq (.reg [(⟨(some 11), .move (.tmp 5), none⟩, (.int .i64)),
        (⟨(some 12), .bin .eql (.tmp 11) (.const (.int .i64 (-1))), none⟩, .bool)]) <|
    .cond (.tmp 12)
      (.seq (.reg [(⟨(some 13), .move (.tmp 0), none⟩, .any),
          (⟨(some 4), .move (.tmp 13), none⟩, .any)]) <|
      .ret)
      (.skip)) <|
  .seq (.cutn [(5, (.int .i64))] <|
      .seq (.reg [(⟨(some 14), .move (.tmp 5), none⟩, (.int .i64)),
          (⟨(some 15), .bin .add (.tmp 14) (.const (.int .i64 1)), none⟩, (.int .i64)),
          (⟨(some 6), .move (.tmp 15), none⟩, (.int .i64))]) <|
      .block 0 <|
        .loop [(5, (.int .i64)), (6, (.int .i64))] <|
          .seq (.seq (.reg [(⟨(some 16), .move (.tmp 6), none⟩, (.int .i64)),
                (⟨(some 17), .move (.tmp 0), none⟩, .any),
                (⟨(some 18), .lenS (.tmp 17), none⟩, (.int .i64)),
                (⟨(some 19), .bin .lss (.tmp 16) (.tmp 18), none⟩, .bool)]) <|
            .cond (.tmp 19)
              (.skip)
              (.exit 0)) <|
          .seq (.cutn [(5, (.int .i64))] <|
              .block 1 <|
                .seq (.reg [(⟨(some 22), .move (.tmp 0), none⟩, .any),
                    (⟨(some 23), .move (.tmp 6), none⟩, (.int .i64)),
                    (⟨(some 24), .idxSlice 1 (.tmp 22) (.tmp 23), none⟩, .ptr),
                    (⟨(some 25), .load false 1 (.tmp 24), none⟩, (.int .i64)),
                    (⟨(some 7), .move (.tmp 25), none⟩, (.int .i64))]) <|
                .seq (.reg [(⟨(some 26), .move (.tmp 1), none⟩, (.fn k_blocks_Both_1 1)),
                    (⟨(some 27), .move (.tmp 7), none⟩, (.int .i64)),
                    (⟨(some 28), .callv (.tmp 26) [(.tmp 27)], none⟩, .bool),
                    (⟨(some 29), .un .not (.tmp 28), none⟩, .bool)]) <|
                .cond (.tmp 29)
                  (.seq (.reg [(⟨(some 30), .move (.tmp 0), none⟩, .any),
                      (⟨(some 31), .move (.tmp 5), none⟩, (.int .i64)),
                      (⟨(some 32), .move (.tmp 7), none⟩, (.int .i64)),
                      (⟨(some 33), .idxSlice 1 (.tmp 30) (.tmp 31), none⟩, .ptr),
                      (⟨none, .store 1 (.tmp 33) (.tmp 32), none⟩, .any)]) <|
                  .reg [(⟨(some 34), .move (.tmp 5), none⟩, (.int .i64)),
                    (⟨(some 35), .bin .add (.tmp 34) (.const (.int .i64 1)), none⟩, (.int .i64)),
                    (⟨(some 5), .move (.tmp 35), none⟩, (.int .i64))])
                  (.skip)) <|
          .reg [(⟨(some 20), .move (.tmp 6), none⟩, (.int .i64)),
            (⟨(some 21), .bin .add (.tmp 20) (.const (.int .i64 1)), none⟩, (.int .i64)),
            (⟨(some 6), .move (.tmp 21), none⟩, (.int .i64))]) <|
  .seq (.reg [(⟨(some 36), .move (.tmp 0), none⟩, .any),
      (⟨(some 37), .move (.tmp 5), none⟩, (.int .i64)),
      (⟨(some 38), .slice 1 (.tmp 36) (some (.tmp 37)) none none, none⟩, .any),
      (⟨none, .clear [(.int .i64 0)] (.tmp 38), none⟩, .any)]) <|
  .seq (.reg [(⟨(some 39), .move (.tmp 0), none⟩, .any),
      (⟨(some 40), .move (.tmp 5), none⟩, (.int .i64)),
      (⟨(some 41), .slice 1 (.tmp 39) none (some (.tmp 40)) none, none⟩, .any),
      (⟨(some 4), .move (.tmp 41), none⟩, .any)]) <|
  .ret
def f_slices_DeleteFunc_int_int_L11 (n : Nat) (u1 : Ptrs 1) (u0 : Value) (v1 : Int) (v2 : Int) (h3 : Heap) : Option (((Int × Int × Unit) × Heap) ⊕ ((Int × Unit) × Heap)) :=
  (lenB u0).bind fun n4 =>
  bif (decide (v2 < (n4 : Int))) then
    ((((ixB 1 u0 v2).bind fun q5 =>
      (ldT (.int .i64) h3 (some q5)).bind fun x6 =>
      (f_blocks_Both_1 n x6 u1.1 h3).bind fun p7 =>
      bif (!p7.1.1) then
        ((ixB 1 u0 v1).bind fun q8 =>
        (stB 1 (.int .i64 x6) p7.2 (some q8)).bind fun h9 =>
        some (((IntKind.i64.wrap (v1 + 1)), ()), h9))
      else
        (some ((v1, ()), p7.2))) : Option ((Int × Unit) × Heap)).bind fun a10 =>
    some (.inl ((a10.1.1, ((IntKind.i64.wrap (v2 + 1)), ())), a10.2)))
  else
    (some (.inr ((v1, ()), h3)))
noncomputable def sf_slices_DeleteFunc_int_int (n : Nat) : Sf := sfOf [(k_slices_IndexFunc_int_int, s_slices_IndexFunc_int_int n), (k_blocks_Both_1, s_blocks_Both_1 n)]
noncomputable def it_slices_DeleteFunc_int_int (n : Nat) : It := itOf []
def f_slices_DeleteFunc_int_int (n : Nat) (u0 : Value) (u1 : Ptrs 1) (h : Heap) : Option ((Value × Unit) × Heap) :=
  (f_slices_IndexFunc_int_int n u0 u1 h).bind fun p0 =>
  bif (decide (p0.1.1 = (-1))) then
    (bif !isTuple u0 then
      (some ((u0, ()), p0.2))
    else
      (none))
  else
    (((loopT (fun a => f_slices_DeleteFunc_int_int_L11 n u1 u0 a.1.1 a.1.2.1 a.2) n ((p0.1.1, ((IntKind.i64.wrap (p0.1.1 + 1)), ())), p0.2)) : Option ((Int × Unit) × Heap)).bind fun a12 =>
    (sliceK a12.2 1 (some (.int .i64 a12.1.1)) none none u0).bind fun p13 =>
    (clearK a12.2 [(.int .i64 0)] p13.1).bind fun p14 =>
    (sliceK p14.2 1 none (some (.int .i64 a12.1.1)) none u0).bind fun p15 =>
    bif !isTuple p15.1 then
      (some ((p15.1, ()), p14.2))
    else
      (none))
def rs_slices_DeleteFunc_int_int : Rs := [(.tmp 4, .any)]
def ps_slices_DeleteFunc_int_int : List Ty := [.any, (.fn k_blocks_Both_1 1)]
theorem e_slices_DeleteFunc_int_int (n : Nat) (u0 : Value) (u1 : Ptrs 1) (h : Heap) : f_slices_DeleteFunc_int_int n u0 u1 h = fB (sf_slices_DeleteFunc_int_int n) (it_slices_DeleteFunc_int_int n) n c2_slices_DeleteFunc_int_int rs_slices_DeleteFunc_int_int ps_slices_DeleteFunc_int_int (u0, (u1, ())) h := by kernel_rfl
noncomputable def s_slices_DeleteFunc_int_int (n : Nat) : Sf1 := mkSf ps_slices_DeleteFunc_int_int rs_slices_DeleteFunc_int_int fun a h => f_slices_DeleteFunc_int_int n a.1 a.2.1 h

/- wicket/blocks.Both -/
def c2_blocks_Both : C2 :=
  .seq (.reg [(⟨(some 3), .box (.tmp 1), none⟩, .ptr),
      (⟨(some 4), .move (.const (.slice none 0 0)), none⟩, .any)]) <|
  .seq (.reg [(⟨(some 5), .move (.tmp 0), none⟩, .any),
      (⟨(some 6), .call k_slices_Clone_int_int [(.tmp 5)], none⟩, .any),
      (⟨(some 7), .makeFunc k_blocks_Both_1 [] [(.tmp 3)], none⟩, (.fn k_blocks_Both_1 1)),
      (⟨(some 8), .call k_slices_DeleteFunc_int_int [(.tmp 6), (.tmp 7)], none⟩, .any),
      (⟨(some 9), .call k_blocks_rising [(.tmp 8)], none⟩, .any),
      (⟨(some 4), .move (.tmp 9), none⟩, .any)]) <|
  .ret
noncomputable def sf_blocks_Both (n : Nat) : Sf := sfOf [(k_slices_Clone_int_int, s_slices_Clone_int_int n), (k_slices_DeleteFunc_int_int, s_slices_DeleteFunc_int_int n), (k_blocks_rising, s_blocks_rising n)]
noncomputable def it_blocks_Both (n : Nat) : It := itOf []
def f_blocks_Both (n : Nat) (u0 : Value) (u1 : Value) (h : Heap) : Option ((Value × Unit) × Heap) :=
  bif (cellsOf u1).all isCell then
    (bnd ((Heap.new h (.cells (cellsOf u1) false 0))) fun h0 =>
    (f_slices_Clone_int_int n u0 h0).bind fun p1 =>
    (f_slices_DeleteFunc_int_int n p1.1.1 ((some (nwA h)), ()) p1.2).bind fun p2 =>
    (f_blocks_rising n p2.1.1 p2.2).bind fun p3 =>
    bif !isTuple p3.1.1 then
      (some ((p3.1.1, ()), p3.2))
    else
      (none))
  else
    (none)
def rs_blocks_Both : Rs := [(.tmp 4, .any)]
def ps_blocks_Both : List Ty := [.any, .any]
theorem e_blocks_Both (n : Nat) (u0 : Value) (u1 : Value) (h : Heap) : f_blocks_Both n u0 u1 h = fB (sf_blocks_Both n) (it_blocks_Both n) n c2_blocks_Both rs_blocks_Both ps_blocks_Both (u0, (u1, ())) h := by kernel_rfl
noncomputable def s_blocks_Both (n : Nat) : Sf1 := mkSf ps_blocks_Both rs_blocks_Both fun a h => f_blocks_Both n a.1 a.2.1 h

/- wicket/wicketlaw05.BlocksLists -/
def c2_wicketlaw05_BlocksLists : C2 :=
  .seq (.reg [(⟨(some 6), .move (.const (.bool false)), none⟩, .bool)]) <|
  .seq (.seq (.reg [(⟨(some 19), .call k_wicketlaw05_awake [], none⟩, .bool),
        (⟨(some 20), .un .not (.tmp 19), none⟩, .bool)]) <|
    .cond (.tmp 20)
      (.seq (.reg [(⟨(some 6), .move (.const (.bool false)), none⟩, .bool)]) <|
      .ret)
      (.skip)) <|
  .seq (.reg [(⟨(some 21), .move (.tmp 0), none⟩, .any),
      (⟨(some 22), .move (.tmp 1), none⟩, .any),
      (⟨(some 23), .call k_wicketref05_Both [(.tmp 21), (.tmp 22)], none⟩, .any),
      (⟨(some 7), .move (.tmp 23), none⟩, .any)]) <|
  .seq (.reg [(⟨(some 25), .move (.tmp 0), none⟩, .any),
      (⟨(some 26), .move (.tmp 2), none⟩, (.int .i64)),
      (⟨(some 27), .call k_wicketref05_Next [(.tmp 25), (.tmp 26)], none⟩, .any),
      (⟨(some 24), .move (.tmp 27), none⟩, .any),
      (⟨(some 28), .extract (.tmp 24) 0, none⟩, (.int .i64)),
      (⟨(some 29), .extract (.tmp 24) 1, none⟩, .bool),
      (⟨(some 8), .move (.tmp 28), none⟩, (.int .i64)),
      (⟨(some 9), .move (.tmp 29), none⟩, .bool)]) <|
  .seq (.reg [(⟨(some 30), .move (.tmp 0), none⟩, .any),
      (⟨(some 31), .call k_wicketlaw05_Roomy [(.tmp 30)], none⟩, .any),
      (⟨(some 32), .move (.tmp 1), none⟩, .any),
      (⟨(some 33), .call k_wicketlaw05_Roomy [(.tmp 32)], none⟩, .any),
      (⟨(some 10), .move (.tmp 31), none⟩, .any),
      (⟨(some 11), .move (.tmp 33), none⟩, .any)]) <|
  .seq (.reg [(⟨(some 34), .move (.tmp 10), none⟩, .any),
      (⟨(some 35), .move (.tmp 11), none⟩, .any),
      (⟨(some 36), .call k_blocks_Both [(.tmp 34), (.tmp 35)], none⟩, .any),
      (⟨(some 12), .move (.tmp 36), none⟩, .any)]) <|
  .seq (.reg [(⟨(some 38), .move (.tmp 10), none⟩, .any),
      (⟨(some 39), .move (.tmp 2), none⟩, (.int .i64)),
      (⟨(some 40), .call k_blocks_Next [(.tmp 38), (.tmp 39)], none⟩, .any),
      (⟨(some 37), .move (.tmp 40), none⟩, .any),
      (⟨(some 41), .extract (.tmp 37) 0, none⟩, (.int .i64)),
      (⟨(some 42), .extract (.tmp 37) 1, none⟩, .bool),
      (⟨(some 13), .move (.tmp 41), none⟩, (.int .i64)),
      (⟨(some 14), .move (.tmp 42), none⟩, .bool)]) <|
  .seq (.seq (.cutn [(72, .bool)] <|
        .reg [(⟨(some 43), .move (.tmp 12), none⟩, .any),
          (⟨(some 44), .move (.tmp 7), none⟩, .any),
          (⟨(some 45), .call k_wicketref05_Same [(.tmp 43), (.tmp 44)], none⟩, .bool),
          (⟨(some 46), .un .not (.tmp 45), none⟩, .bool),
          (⟨(some 47), .move (.tmp 46), none⟩, .bool),
          (⟨(some 48), .move (.tmp 13), some (47, false)⟩, (.int .i64)),
          (⟨(some 49), .move (.tmp 8), some (47, false)⟩, (.int .i64)),
          (⟨(some 50), .bin .neq (.tmp 48) (.tmp 49), some (47, false)⟩, .bool),
          (⟨(some 51), .pick (.tmp 47) (.const (.bool true)) (.tmp 50), none⟩, .bool),
          (⟨(some 52), .move (.tmp 51), none⟩, .bool),
          (⟨(some 53), .move (.tmp 14), some (52, false)⟩, .bool),
          (⟨(some 54), .move (.tmp 9), some (52, false)⟩, .bool),
          (⟨(some 55), .eqv true .bool (.tmp 53) (.tmp 54), some (52, false)⟩, .bool),
          (⟨(some 56), .pick (.tmp 52) (.const (.bool true)) (.tmp 55), none⟩, .bool),
          (⟨(some 57), .move (.tmp 56), none⟩, .bool),
          (⟨(some 58), .move (.tmp 10), some (57, false)⟩, .any),
          (⟨(some 59), .call k_blocks_Is [(.tmp 58)], some (57, false)⟩, .bool),
          (⟨(some 60), .move (.tmp 0), some (57, false)⟩, .any),
          (⟨(some 61), .call k_wicketref05_Is [(.tmp 60)], some (57, false)⟩, .bool),
          (⟨(some 62), .eqv true .bool (.tmp 59) (.tmp 61), some (57, false)⟩, .bool),
          (⟨(some 63), .pick (.tmp 57) (.const (.bool true)) (.tmp 62), none⟩, .bool),
          (⟨(some 64), .move (.tmp 63), none⟩, .bool),
          (⟨(some 65), .move (.tmp 10), some (64, false)⟩, .any),
          (⟨(some 66), .move (.tmp 2), some (64, false)⟩, (.int .i64)),
          (⟨(some 67), .call k_blocks_Has [(.tmp 65), (.tmp 66)], some (64, false)⟩, .bool),
          (⟨(some 68), .move (.tmp 0), some (64, false)⟩, .any),
          (⟨(some 69), .move (.tmp 2), some (64, false)⟩, (.int .i64)),
          (⟨(some 70), .call k_wicketref05_Has [(.tmp 68), (.tmp 69)], some (64, false)⟩, .bool),
          (⟨(some 71), .eqv true .bool (.tmp 67) (.tmp 70), some (64, false)⟩, .bool),
          (⟨(some 72), .pick (.tmp 64) (.const (.bool true)) (.tmp 71), none⟩, .bool)]) <|
    .cond (.tmp 72)
      (.seq (.reg [(⟨(some 6), .move (.const (.bool false)), none⟩, .bool)]) <|
      .ret)
      (.skip)) <|
  .seq (.reg [(⟨(some 73), .move (.tmp 10), none⟩, .any),
      (⟨(some 74), .move (.tmp 11), none⟩, .any),
      (⟨(some 75), .call k_blocks_Both [(.tmp 73), (.tmp 74)], none⟩, .any),
      (⟨(some 15), .move (.tmp 75), none⟩, .any)]) <|
  .seq (.seq (.reg [(⟨(some 76), .move (.tmp 15), none⟩, .any),
        (⟨(some 77), .move (.tmp 7), none⟩, .any),
        (⟨(some 78), .call k_wicketref05_Same [(.tmp 76), (.tmp 77)], none⟩, .bool),
        (⟨(some 79), .un .not (.tmp 78), none⟩, .bool)]) <|
    .cond (.tmp 79)
      (.seq (.reg [(⟨(some 6), .move (.const (.bool false)), none⟩, .bool)]) <|
      .ret)
      (.skip)) <|
  .seq (.reg [(⟨(some 80), .move (.tmp 11), none⟩, .any),
      (⟨(some 81), .buildSlice 3 1 [(.int .i64 0), (.int .i64 0), (.int .i64 0)] [(0, 1, (.const (.int .i64 1))), (1, 1, (.const (.int .i64 2))), (2, 1, (.const (.int .i64 3)))], none⟩, .any),
      (⟨(some 82), .call k_blocks_Both [(.tmp 80), (.tmp 81)], none⟩, .any),
      (⟨(some 16), .move (.tmp 82), none⟩, .any)]) <|
  .seq (.reg [(⟨(some 83), .move (.tmp 10), none⟩, .any),
      (⟨(some 84), .move (.tmp 11), none⟩, .any),
      (⟨(some 85), .call k_blocks_Both [(.tmp 83), (.tmp 84)], none⟩, .any),
      (⟨(some 17), .move (.tmp 85), none⟩, .any)]) <|
  .seq (.seq (.cutn [(113, .bool)] <|
        .reg [(⟨(some 86), .move (.tmp 17), none⟩, .any),
          (⟨(some 87), .move (.tmp 7), none⟩, .any),
          (⟨(some 88), .call k_wicketref05_Same [(.tmp 86), (.tmp 87)], none⟩, .bool),
          (⟨(some 89), .un .not (.tmp 88), none⟩, .bool),
          (⟨(some 90), .move (.tmp 89), none⟩, .bool),
          (⟨(some 91), .move (.tmp 12), some (90, false)⟩, .any),
          (⟨(some 92), .move (.tmp 7), some (90, false)⟩, .any),
          (⟨(some 93), .call k_wicketref05_Same [(.tmp 91), (.tmp 92)], some (90, false)⟩, .bool),
          (⟨(some 94), .un .not (.tmp 93), some (90, false)⟩, .bool),
          (⟨(some 95), .pick (.tmp 90) (.const (.bool true)) (.tmp 94), none⟩, .bool),
          (⟨(some 96), .move (.tmp 95), none⟩, .bool),
          (⟨(some 97), .move (.tmp 15), some (96, false)⟩, .any),
          (⟨(some 98), .move (.tmp 7), some (96, false)⟩, .any),
          (⟨(some 99), .call k_wicketref05_Same [(.tmp 97), (.tmp 98)], some (96, false)⟩, .bool),
          (⟨(some 100), .un .not (.tmp 99), some (96, false)⟩, .bool),
          (⟨(some 101), .pick (.tmp 96) (.const (.bool true)) (.tmp 100), none⟩, .bool),
          (⟨(some 102), .move (.tmp 101), none⟩, .bool),
          (⟨(some 103), .move (.tmp 10), some (102, false)⟩, .any),
          (⟨(some 104), .move (.tmp 0), some (102, false)⟩, .any),
          (⟨(some 105), .call k_wicketlaw05_Held [(.tmp 103), (.tmp 104)], some (102, false)⟩, .bool),
          (⟨(some 106), .un .not (.tmp 105), some (102, false)⟩, .bool),
          (⟨(some 107), .pick (.tmp 102) (.const (.bool true)) (.tmp 106), none⟩, .bool),
          (⟨(some 108), .move (.tmp 107), none⟩, .bool),
          (⟨(some 109), .move (.tmp 11), some (108, false)⟩, .any),
          (⟨(some 110), .move (.tmp 1), some (108, false)⟩, .any),
          (⟨(some 111), .call k_wicketlaw05_Held [(.tmp 109), (.tmp 110)], some (108, false)⟩, .bool),
          (⟨(some 112), .un .not (.tmp 111), some (108, false)⟩, .bool),
          (⟨(some 113), .pick (.tmp 108) (.const (.bool true)) (.tmp 112), none⟩, .bool)]) <|
    .cond (.tmp 113)
      (.seq (.reg [(⟨(some 6), .move (.const (.bool false)), none⟩, .bool)]) <|
      .ret)
      (.skip)) <|
  .seq (.reg [(⟨(some 114), .move (.tmp 10), none⟩, .any),
      (⟨(some 115), .call k_wicketlaw05_turn [(.tmp 114)], none⟩, .any)]) <|
  .seq (.reg [(⟨(some 116), .move (.tmp 10), none⟩, .any),
      (⟨(some 117), .call k_wicketlaw05_Own [(.tmp 116)], none⟩, .any),
      (⟨(some 118), .move (.tmp 1), none⟩, .any),
      (⟨(some 119), .call k_wicketref05_Both [(.tmp 117), (.tmp 118)], none⟩, .any),
      (⟨(some 7), .move (.tmp 119), none⟩, .any)]) <|
  .seq (.reg [(⟨(some 121), .move (.tmp 10), none⟩, .any),
      (⟨(some 122), .call k_wicketlaw05_Own [(.tmp 121)], none⟩, .any),
      (⟨(some 123), .move (.tmp 2), none⟩, (.int .i64)),
      (⟨(some 124), .call k_wicketref05_Next [(.tmp 122), (.tmp 123)], none⟩, .any),
      (⟨(some 120), .move (.tmp 124), none⟩, .any),
      (⟨(some 125), .extract (.tmp 120) 0, none⟩, (.int .i64)),
      (⟨(some 126), .extract (.tmp 120) 1, none⟩, .bool),
      (⟨(some 8), .move (.tmp 125), none⟩, (.int .i64)),
      (⟨(some 9), .move (.tmp 126), none⟩, .bool)]) <|
  .seq (.reg [(⟨(some 127), .move (.tmp 10), none⟩, .any),
      (⟨(some 128), .move (.tmp 11), none⟩, .any),
      (⟨(some 129), .call k_blocks_Both [(.tmp 127), (.tmp 128)], none⟩, .any),
      (⟨(some 18), .move (.tmp 129), none⟩, .any)]) <|
  .seq (.reg [(⟨(some 131), .move (.tmp 10), none⟩, .any),
      (⟨(some 132), .move (.tmp 2), none⟩, (.int .i64)),
      (⟨(some 133), .call k_blocks_Next [(.tmp 131), (.tmp 132)], none⟩, .any),
      (⟨(some 130), .move (.tmp 133), none⟩, .any),
      (⟨(some 134), .extract (.tmp 130) 0, none⟩, (.int .i64)),
      (⟨(some 135), .extract (.tmp 130) 1, none⟩, .bool),
      (⟨(some 13), .move (.tmp 134), none⟩, (.int .i64)),
      (⟨(some 14), .move (.tmp 135), none⟩, .bool)]) <|
  .seq (.reg [(⟨(some 136), .move (.tmp 18), none⟩, .any),
      (⟨(some 137), .move (.tmp 7), none⟩, .any),
      (⟨(some 138), .call k_wicketref05_Same [(.tmp 136), (.tmp 137)], none⟩, .bool),
      (⟨(some 139), .move (.tmp 138), none⟩, .bool),
      (⟨(some 140), .move (.tmp 13), some (139, true)⟩, (.int .i64)),
      (⟨(some 141), .move (.tmp 8), some (139, true)⟩, (.int .i64)),
      (⟨(some 142), .bin .eql (.tmp 140) (.tmp 141), some (139, true)⟩, .bool),
      (⟨(some 143), .pick (.tmp 139) (.tmp 142) (.const (.bool false)), none⟩, .bool),
      (⟨(some 144), .move (.tmp 143), none⟩, .bool),
      (⟨(some 145), .move (.tmp 14), some (144, true)⟩, .bool),
      (⟨(some 146), .move (.tmp 9), some (144, true)⟩, .bool),
      (⟨(some 147), .eqv false .bool (.tmp 145) (.tmp 146), some (144, true)⟩, .bool),
      (⟨(some 148), .pick (.tmp 144) (.tmp 147) (.const (.bool false)), none⟩, .bool),
      (⟨(some 149), .move (.tmp 148), none⟩, .bool),
      (⟨(some 150), .move (.tmp 10), some (149, true)⟩, .any),
      (⟨(some 151), .call k_blocks_Is [(.tmp 150)], some (149, true)⟩, .bool),
      (⟨(some 152), .move (.tmp 10), some (149, true)⟩, .any),
      (⟨(some 153), .call k_wicketref05_Is [(.tmp 152)], some (149, true)⟩, .bool),
      (⟨(some 154), .eqv false .bool (.tmp 151) (.tmp 153), some (149, true)⟩, .bool),
      (⟨(some 155), .pick (.tmp 149) (.tmp 154) (.const (.bool false)), none⟩, .bool),
      (⟨(some 156), .move (.tmp 155), none⟩, .bool),
      (⟨(some 157), .move (.tmp 10), some (156, true)⟩, .any),
      (⟨(some 158), .move (.tmp 2), some (156, true)⟩, (.int .i64)),
      (⟨(some 159), .call k_blocks_Has [(.tmp 157), (.tmp 158)], some (156, true)⟩, .bool),
      (⟨(some 160), .move (.tmp 10), some (156, true)⟩, .any),
      (⟨(some 161), .move (.tmp 2), some (156, true)⟩, (.int .i64)),
      (⟨(some 162), .call k_wicketref05_Has [(.tmp 160), (.tmp 161)], some (156, true)⟩, .bool),
      (⟨(some 163), .eqv false .bool (.tmp 159) (.tmp 162), some (156, true)⟩, .bool),
      (⟨(some 164), .pick (.tmp 156) (.tmp 163) (.const (.bool false)), none⟩, .bool),
      (⟨(some 165), .move (.tmp 164), none⟩, .bool),
      (⟨(some 166), .move (.tmp 12), some (165, true)⟩, .any),
      (⟨(some 167), .move (.tmp 15), some (165, true)⟩, .any),
      (⟨(some 168), .move (.tmp 16), some (165, true)⟩, .any),
      (⟨(some 169), .move (.tmp 17), some (165, true)⟩, .any),
      (⟨(some 170), .move (.tmp 18), some (165, true)⟩, .any),
      (⟨(some 171), .buildSlice 5 1 (List.replicate 5 (.slice none 0 0)) [(0, 1, (.tmp 166)), (1, 1, (.tmp 167)), (2, 1, (.tmp 168)), (3, 1, (.tmp 169)), (4, 1, (.tmp 170))], some (165, true)⟩, .any),
      (⟨(some 172), .call k_wicketlaw05_Apart [(.tmp 171)], some (165, true)⟩, .bool),
      (⟨(some 173), .pick (.tmp 165) (.tmp 172) (.const (.bool false)), none⟩, .bool),
      (⟨(some 6), .move (.tmp 173), none⟩, .bool)]) <|
  .ret
noncomputable def sf_wicketlaw05_BlocksLists (n : Nat) : Sf := sfOf [(k_wicketlaw05_awake, s_wicketlaw05_awake n), (k_wicketref05_Both, s_wicketref05_Both n), (k_wicketref05_Next, s_wicketref05_Next n), (k_wicketlaw05_Roomy, s_wicketlaw05_Roomy n), (k_blocks_Both, s_blocks_Both n), (k_blocks_Next, s_blocks_Next n), (k_wicketref05_Same, s_wicketref05_Same n), (k_blocks_Is, s_blocks_Is n), (k_wicketref05_Is, s_wicketref05_Is n), (k_blocks_Has, s_blocks_Has n), (k_wicketref05_Has, s_wicketref05_Has n), (k_wicketlaw05_Held, s_wicketlaw05_Held n), (k_wicketlaw05_turn, s_wicketlaw05_turn n), (k_wicketlaw05_Own, s_wicketlaw05_Own n), (k_wicketlaw05_Apart, s_wicketlaw05_Apart n)]
noncomputable def it_wicketlaw05_BlocksLists (n : Nat) : It := itOf []
def f_wicketlaw05_BlocksLists (n : Nat) (u0 : Value) (u1 : Value) (u2 : Int) (h : Heap) : Option ((Bool × Unit) × Heap) :=
  (f_wicketlaw05_awake n h).bind fun p0 =>
  bif (!p0.1.1) then
    (some ((false, ()), p0.2))
  else
    ((f_wicketref05_Both n u0 u1 p0.2).bind fun p1 =>
    (f_wicketref05_Next n u0 u2 p1.2).bind fun p2 =>
    (f_wicketlaw05_Roomy n u0 p2.2).bind fun p3 =>
    (f_wicketlaw05_Roomy n u1 p3.2).bind fun p4 =>
    (f_blocks_Both n p3.1.1 p4.1.1 p4.2).bind fun p5 =>
    (f_blocks_Next n p3.1.1 u2 p5.2).bind fun p6 =>
    (((f_wicketref05_Same n p5.1.1 p1.1.1 p6.2).bind fun p7 =>
      bif (!p7.1.1) then
        (some ((true, ()), p7.2))
      else
        (bif (!decide (p6.1.1 = p2.1.1)) then
          (some ((true, ()), p7.2))
        else
          (bif (!(p6.1.2.1 == p2.1.2.1)) then
            (some ((true, ()), p7.2))
          else
            ((f_blocks_Is n p3.1.1 p7.2).bind fun p8 =>
            (f_wicketref05_Is n u0 p8.2).bind fun p9 =>
            bif (!(p8.1.1 == p9.1.1)) then
              (some ((true, ()), p9.2))
            else
              ((f_blocks_Has n p3.1.1 u2 p9.2).bind fun p10 =>
              (f_wicketref05_Has n u0 u2 p10.2).bind fun p11 =>
              some (((!(p10.1.1 == p11.1.1)), ()), p11.2)))))) : Option ((Bool × Unit) × Heap)).bind fun a12 =>
    bif a12.1.1 then
      (some ((false, ()), a12.2))
    else
      ((f_blocks_Both n p3.1.1 p4.1.1 a12.2).bind fun p13 =>
      (f_wicketref05_Same n p13.1.1 p1.1.1 p13.2).bind fun p14 =>
      bif (!p14.1.1) then
        (some ((false, ()), p14.2))
      else
        ((fillL [(.int .i64 0), (.int .i64 0), (.int .i64 0)] [(0, 1, (.int .i64 1)), (1, 1, (.int .i64 2)), (2, 1, (.int .i64 3))]).bind fun cs15 =>
        bnd ((Heap.new p14.2 (.cells cs15 false 1))) fun h16 =>
        (f_blocks_Both n p4.1.1 (.slice (some ⟨Heap.next p14.2, 0, some 0⟩) 3 3) h16).bind fun p17 =>
        (f_blocks_Both n p3.1.1 p4.1.1 p17.2).bind fun p18 =>
        (((f_wicketref05_Same n p18.1.1 p1.1.1 p18.2).bind fun p19 =>
          bif (!p19.1.1) then
            (some ((true, ()), p19.2))
          else
            ((f_wicketref05_Same n p5.1.1 p1.1.1 p19.2).bind fun p20 =>
            bif (!p20.1.1) then
              (some ((true, ()), p20.2))
            else
              ((f_wicketref05_Same n p13.1.1 p1.1.1 p20.2).bind fun p21 =>
              bif (!p21.1.1) then
                (some ((true, ()), p21.2))
              else
                ((f_wicketlaw05_Held n p3.1.1 u0 p21.2).bind fun p22 =>
                bif (!p22.1.1) then
                  (some ((true, ()), p22.2))
                else
                  ((f_wicketlaw05_Held n p4.1.1 u1 p22.2).bind fun p23 =>
                  some (((!p23.1.1), ()), p23.2)))))) : Option ((Bool × Unit) × Heap)).bind fun a24 =>
        bif a24.1.1 then
          (some ((false, ()), a24.2))
        else
          ((f_wicketlaw05_turn n p3.1.1 a24.2).bind fun p25 =>
          (f_wicketlaw05_Own n p3.1.1 p25.2).bind fun p26 =>
          (f_wicketref05_Both n p26.1.1 u1 p26.2).bind fun p27 =>
          (f_wicketlaw05_Own n p3.1.1 p27.2).bind fun p28 =>
          (f_wicketref05_Next n p28.1.1 u2 p28.2).bind fun p29 =>
          (f_blocks_Both n p3.1.1 p4.1.1 p29.2).bind fun p30 =>
          (f_blocks_Next n p3.1.1 u2 p30.2).bind fun p31 =>
          (f_wicketref05_Same n p30.1.1 p27.1.1 p31.2).bind fun p32 =>
          bif p32.1.1 then
            (bif (decide (p31.1.1 = p29.1.1)) then
              (bif (p31.1.2.1 == p29.1.2.1) then
                ((f_blocks_Is n p3.1.1 p32.2).bind fun p33 =>
                (f_wicketref05_Is n p3.1.1 p33.2).bind fun p34 =>
                bif (p33.1.1 == p34.1.1) then
                  ((f_blocks_Has n p3.1.1 u2 p34.2).bind fun p35 =>
                  (f_wicketref05_Has n p3.1.1 u2 p35.2).bind fun p36 =>
                  bif (p35.1.1 == p36.1.1) then
                    ((fillL (List.replicate 5 (.slice none 0 0)) [(0, 1, p5.1.1), (1, 1, p13.1.1), (2, 1, p17.1.1), (3, 1, p18.1.1), (4, 1, p30.1.1)]).bind fun cs37 =>
                    bnd ((Heap.new p36.2 (.cells cs37 false 1))) fun h38 =>
                    (f_wicketlaw05_Apart n (.slice (some ⟨Heap.next p36.2, 0, some 0⟩) 5 5) h38).bind fun p39 =>
                    some ((p39.1.1, ()), p39.2))
                  else
                    (some ((false, ()), p36.2)))
                else
                  (some ((false, ()), p34.2)))
              else
                (some ((false, ()), p32.2)))
            else
              (some ((false, ()), p32.2)))
          else
            (some ((false, ()), p32.2))))))
def rs_wicketlaw05_BlocksLists : Rs := [(.tmp 6, .bool)]
def ps_wicketlaw05_BlocksLists : List Ty := [.any, .any, (.int .i64)]
theorem e_wicketlaw05_BlocksLists (n : Nat) (u0 : Value) (u1 : Value) (u2 : Int) (h : Heap) : f_wicketlaw05_BlocksLists n u0 u1 u2 h = fB (sf_wicketlaw05_BlocksLists n) (it_wicketlaw05_BlocksLists n) n c2_wicketlaw05_BlocksLists rs_wicketlaw05_BlocksLists ps_wicketlaw05_BlocksLists (u0, (u1, (u2, ()))) h := by kernel_rfl
noncomputable def s_wicketlaw05_BlocksLists (n : Nat) : Sf1 := mkSf ps_wicketlaw05_BlocksLists rs_wicketlaw05_BlocksLists fun a h => f_wicketlaw05_BlocksLists n a.1 a.2.1 a.2.2.1 h

/-- The table holds these. -/
structure LfT (T : Nat → Option AFun) : Prop where
  t_wicketlaw05_awake : PrimT_wicketlaw05_awake T
  t_slices_Sort_int_int : PrimT_slices_Sort_int_int T
  t_wicketref05_Next : T k_wicketref05_Next = some ⟨List.map (·.1) rs_wicketref05_Next, C2.erase c2_wicketref05_Next, none⟩
  t_blocks_Next : T k_blocks_Next = some ⟨List.map (·.1) rs_blocks_Next, C2.erase c2_blocks_Next, none⟩
  t_wicketref05_Same : T k_wicketref05_Same = some ⟨List.map (·.1) rs_wicketref05_Same, C2.erase c2_wicketref05_Same, none⟩
  t_blocks_Is : T k_blocks_Is = some ⟨List.map (·.1) rs_blocks_Is, C2.erase c2_blocks_Is, none⟩
  t_wicketref05_Is : T k_wicketref05_Is = some ⟨List.map (·.1) rs_wicketref05_Is, C2.erase c2_wicketref05_Is, none⟩
  t_wicketref05_Has : T k_wicketref05_Has = some ⟨List.map (·.1) rs_wicketref05_Has, C2.erase c2_wicketref05_Has, none⟩
  t_wicketlaw05_Held : T k_wicketlaw05_Held = some ⟨List.map (·.1) rs_wicketlaw05_Held, C2.erase c2_wicketlaw05_Held, none⟩
  t_wicketlaw05_turn : T k_wicketlaw05_turn = some ⟨List.map (·.1) rs_wicketlaw05_turn, C2.erase c2_wicketlaw05_turn, none⟩
  t_wicketlaw05_Own : T k_wicketlaw05_Own = some ⟨List.map (·.1) rs_wicketlaw05_Own, C2.erase c2_wicketlaw05_Own, none⟩
  t_wicketlaw05_Apart : T k_wicketlaw05_Apart = some ⟨List.map (·.1) rs_wicketlaw05_Apart, C2.erase c2_wicketlaw05_Apart, none⟩
  t_slices_Clone_int_int : T k_slices_Clone_int_int = some ⟨List.map (·.1) rs_slices_Clone_int_int, C2.erase c2_slices_Clone_int_int, none⟩
  t_slices_Clip_int_int : T k_slices_Clip_int_int = some ⟨List.map (·.1) rs_slices_Clip_int_int, C2.erase c2_slices_Clip_int_int, none⟩
  t_slices_Compact_int_int : T k_slices_Compact_int_int = some ⟨List.map (·.1) rs_slices_Compact_int_int, C2.erase c2_slices_Compact_int_int, none⟩
  t_slices_Index_int_int : T k_slices_Index_int_int = some ⟨List.map (·.1) rs_slices_Index_int_int, C2.erase c2_slices_Index_int_int, none⟩
  t_wicketref05_Both : T k_wicketref05_Both = some ⟨List.map (·.1) rs_wicketref05_Both, C2.erase c2_wicketref05_Both, none⟩
  t_wicketlaw05_Roomy : T k_wicketlaw05_Roomy = some ⟨List.map (·.1) rs_wicketlaw05_Roomy, C2.erase c2_wicketlaw05_Roomy, none⟩
  t_blocks_rising : T k_blocks_rising = some ⟨List.map (·.1) rs_blocks_rising, C2.erase c2_blocks_rising, none⟩
  t_slices_Contains_int_int : T k_slices_Contains_int_int = some ⟨List.map (·.1) rs_slices_Contains_int_int, C2.erase c2_slices_Contains_int_int, none⟩
  t_blocks_Has : T k_blocks_Has = some ⟨List.map (·.1) rs_blocks_Has, C2.erase c2_blocks_Has, none⟩
  t_blocks_Both_1 : T k_blocks_Both_1 = some ⟨List.map (·.1) rs_blocks_Both_1, C2.erase c2_blocks_Both_1, none⟩
  t_slices_IndexFunc_int_int : T k_slices_IndexFunc_int_int = some ⟨List.map (·.1) rs_slices_IndexFunc_int_int, C2.erase c2_slices_IndexFunc_int_int, none⟩
  t_slices_DeleteFunc_int_int : T k_slices_DeleteFunc_int_int = some ⟨List.map (·.1) rs_slices_DeleteFunc_int_int, C2.erase c2_slices_DeleteFunc_int_int, none⟩
  t_blocks_Both : T k_blocks_Both = some ⟨List.map (·.1) rs_blocks_Both, C2.erase c2_blocks_Both, none⟩
  t_wicketlaw05_BlocksLists : T k_wicketlaw05_BlocksLists = some ⟨List.map (·.1) rs_wicketlaw05_BlocksLists, C2.erase c2_wicketlaw05_BlocksLists, none⟩
variable {T : Nat → Option AFun}
theorem ok_wicketlaw05_awake (hT : LfT T) (n : Nat) : Sf1Ok T k_wicketlaw05_awake (s_wicketlaw05_awake n) := primOk_wicketlaw05_awake hT.t_wicketlaw05_awake n
theorem ok_slices_Sort_int_int (hT : LfT T) (n : Nat) : Sf1Ok T k_slices_Sort_int_int (s_slices_Sort_int_int n) := primOk_slices_Sort_int_int hT.t_slices_Sort_int_int n
theorem ok_wicketref05_Next (hT : LfT T) (n : Nat) : Sf1Ok T k_wicketref05_Next (s_wicketref05_Next n) := mkSf_ok (sf := sf_wicketref05_Next n) (it := it_wicketref05_Next n) (n := n) hT.t_wicketref05_Next sfOk_nil itOk_nil fun a h => e_wicketref05_Next n a.1 a.2.1 h
theorem ok_blocks_Next (hT : LfT T) (n : Nat) : Sf1Ok T k_blocks_Next (s_blocks_Next n) := mkSf_ok (sf := sf_blocks_Next n) (it := it_blocks_Next n) (n := n) hT.t_blocks_Next sfOk_nil itOk_nil fun a h => e_blocks_Next n a.1 a.2.1 h
theorem ok_wicketref05_Same (hT : LfT T) (n : Nat) : Sf1Ok T k_wicketref05_Same (s_wicketref05_Same n) := mkSf_ok (sf := sf_wicketref05_Same n) (it := it_wicketref05_Same n) (n := n) hT.t_wicketref05_Same sfOk_nil itOk_nil fun a h => e_wicketref05_Same n a.1 a.2.1 h
theorem ok_blocks_Is (hT : LfT T) (n : Nat) : Sf1Ok T k_blocks_Is (s_blocks_Is n) := mkSf_ok (sf := sf_blocks_Is n) (it := it_blocks_Is n) (n := n) hT.t_blocks_Is sfOk_nil itOk_nil fun a h => e_blocks_Is n a.1 h
theorem ok_wicketref05_Is (hT : LfT T) (n : Nat) : Sf1Ok T k_wicketref05_Is (s_wicketref05_Is n) := mkSf_ok (sf := sf_wicketref05_Is n) (it := it_wicketref05_Is n) (n := n) hT.t_wicketref05_Is sfOk_nil itOk_nil fun a h => e_wicketref05_Is n a.1 h
theorem ok_wicketref05_Has (hT : LfT T) (n : Nat) : Sf1Ok T k_wicketref05_Has (s_wicketref05_Has n) := mkSf_ok (sf := sf_wicketref05_Has n) (it := it_wicketref05_Has n) (n := n) hT.t_wicketref05_Has sfOk_nil itOk_nil fun a h => e_wicketref05_Has n a.1 a.2.1 h
theorem ok_wicketlaw05_Held (hT : LfT T) (n : Nat) : Sf1Ok T k_wicketlaw05_Held (s_wicketlaw05_Held n) := mkSf_ok (sf := sf_wicketlaw05_Held n) (it := it_wicketlaw05_Held n) (n := n) hT.t_wicketlaw05_Held (sfOk_cons (ok_wicketref05_Same hT n) sfOk_nil) itOk_nil fun a h => e_wicketlaw05_Held n a.1 a.2.1 h
theorem ok_wicketlaw05_turn (hT : LfT T) (n : Nat) : Sf1Ok T k_wicketlaw05_turn (s_wicketlaw05_turn n) := mkSf_ok (sf := sf_wicketlaw05_turn n) (it := it_wicketlaw05_turn n) (n := n) hT.t_wicketlaw05_turn sfOk_nil itOk_nil fun a h => e_wicketlaw05_turn n a.1 h
theorem ok_wicketlaw05_Own (hT : LfT T) (n : Nat) : Sf1Ok T k_wicketlaw05_Own (s_wicketlaw05_Own n) := mkSf_ok (sf := sf_wicketlaw05_Own n) (it := it_wicketlaw05_Own n) (n := n) hT.t_wicketlaw05_Own sfOk_nil itOk_nil fun a h => e_wicketlaw05_Own n a.1 h
theorem ok_wicketlaw05_Apart (hT : LfT T) (n : Nat) : Sf1Ok T k_wicketlaw05_Apart (s_wicketlaw05_Apart n) := mkSf_ok (sf := sf_wicketlaw05_Apart n) (it := it_wicketlaw05_Apart n) (n := n) hT.t_wicketlaw05_Apart sfOk_nil itOk_nil fun a h => e_wicketlaw05_Apart n a.1 h
theorem ok_slices_Clone_int_int (hT : LfT T) (n : Nat) : Sf1Ok T k_slices_Clone_int_int (s_slices_Clone_int_int n) := mkSf_ok (sf := sf_slices_Clone_int_int n) (it := it_slices_Clone_int_int n) (n := n) hT.t_slices_Clone_int_int sfOk_nil itOk_nil fun a h => e_slices_Clone_int_int n a.1 h
theorem ok_slices_Clip_int_int (hT : LfT T) (n : Nat) : Sf1Ok T k_slices_Clip_int_int (s_slices_Clip_int_int n) := mkSf_ok (sf := sf_slices_Clip_int_int n) (it := it_slices_Clip_int_int n) (n := n) hT.t_slices_Clip_int_int sfOk_nil itOk_nil fun a h => e_slices_Clip_int_int n a.1 h
theorem ok_slices_Compact_int_int (hT : LfT T) (n : Nat) : Sf1Ok T k_slices_Compact_int_int (s_slices_Compact_int_int n) := mkSf_ok (sf := sf_slices_Compact_int_int n) (it := it_slices_Compact_int_int n) (n := n) hT.t_slices_Compact_int_int sfOk_nil itOk_nil fun a h => e_slices_Compact_int_int n a.1 h
theorem ok_slices_Index_int_int (hT : LfT T) (n : Nat) : Sf1Ok T k_slices_Index_int_int (s_slices_Index_int_int n) := mkSf_ok (sf := sf_slices_Index_int_int n) (it := it_slices_Index_int_int n) (n := n) hT.t_slices_Index_int_int sfOk_nil itOk_nil fun a h => e_slices_Index_int_int n a.1 a.2.1 h
theorem ok_wicketref05_Both (hT : LfT T) (n : Nat) : Sf1Ok T k_wicketref05_Both (s_wicketref05_Both n) := mkSf_ok (sf := sf_wicketref05_Both n) (it := it_wicketref05_Both n) (n := n) hT.t_wicketref05_Both (sfOk_cons (ok_wicketref05_Has hT n) sfOk_nil) itOk_nil fun a h => e_wicketref05_Both n a.1 a.2.1 h
theorem ok_wicketlaw05_Roomy (hT : LfT T) (n : Nat) : Sf1Ok T k_wicketlaw05_Roomy (s_wicketlaw05_Roomy n) := mkSf_ok (sf := sf_wicketlaw05_Roomy n) (it := it_wicketlaw05_Roomy n) (n := n) hT.t_wicketlaw05_Roomy (sfOk_cons (ok_wicketlaw05_Own hT n) sfOk_nil) itOk_nil fun a h => e_wicketlaw05_Roomy n a.1 h
theorem ok_blocks_rising (hT : LfT T) (n : Nat) : Sf1Ok T k_blocks_rising (s_blocks_rising n) := mkSf_ok (sf := sf_blocks_rising n) (it := it_blocks_rising n) (n := n) hT.t_blocks_rising (sfOk_cons (ok_slices_Clone_int_int hT n) (sfOk_cons (ok_slices_Sort_int_int hT n) (sfOk_cons (ok_slices_Compact_int_int hT n) (sfOk_cons (ok_slices_Clip_int_int hT n) sfOk_nil)))) itOk_nil fun a h => e_blocks_rising n a.1 h
theorem ok_slices_Contains_int_int (hT : LfT T) (n : Nat) : Sf1Ok T k_slices_Contains_int_int (s_slices_Contains_int_int n) := mkSf_ok (sf := sf_slices_Contains_int_int n) (it := it_slices_Contains_int_int n) (n := n) hT.t_slices_Contains_int_int (sfOk_cons (ok_slices_Index_int_int hT n) sfOk_nil) itOk_nil fun a h => e_slices_Contains_int_int n a.1 a.2.1 h
theorem ok_blocks_Has (hT : LfT T) (n : Nat) : Sf1Ok T k_blocks_Has (s_blocks_Has n) := mkSf_ok (sf := sf_blocks_Has n) (it := it_blocks_Has n) (n := n) hT.t_blocks_Has (sfOk_cons (ok_slices_Contains_int_int hT n) sfOk_nil) itOk_nil fun a h => e_blocks_Has n a.1 a.2.1 h
theorem ok_blocks_Both_1 (hT : LfT T) (n : Nat) : Sf1Ok T k_blocks_Both_1 (s_blocks_Both_1 n) := mkSf_ok (sf := sf_blocks_Both_1 n) (it := it_blocks_Both_1 n) (n := n) hT.t_blocks_Both_1 (sfOk_cons (ok_blocks_Has hT n) sfOk_nil) itOk_nil fun a h => e_blocks_Both_1 n a.1 a.2.1 h
theorem ok_slices_IndexFunc_int_int (hT : LfT T) (n : Nat) : Sf1Ok T k_slices_IndexFunc_int_int (s_slices_IndexFunc_int_int n) := mkSf_ok (sf := sf_slices_IndexFunc_int_int n) (it := it_slices_IndexFunc_int_int n) (n := n) hT.t_slices_IndexFunc_int_int (sfOk_cons (ok_blocks_Both_1 hT n) sfOk_nil) itOk_nil fun a h => e_slices_IndexFunc_int_int n a.1 a.2.1 h
theorem ok_slices_DeleteFunc_int_int (hT : LfT T) (n : Nat) : Sf1Ok T k_slices_DeleteFunc_int_int (s_slices_DeleteFunc_int_int n) := mkSf_ok (sf := sf_slices_DeleteFunc_int_int n) (it := it_slices_DeleteFunc_int_int n) (n := n) hT.t_slices_DeleteFunc_int_int (sfOk_cons (ok_slices_IndexFunc_int_int hT n) (sfOk_cons (ok_blocks_Both_1 hT n) sfOk_nil)) itOk_nil fun a h => e_slices_DeleteFunc_int_int n a.1 a.2.1 h
theorem ok_blocks_Both (hT : LfT T) (n : Nat) : Sf1Ok T k_blocks_Both (s_blocks_Both n) := mkSf_ok (sf := sf_blocks_Both n) (it := it_blocks_Both n) (n := n) hT.t_blocks_Both (sfOk_cons (ok_slices_Clone_int_int hT n) (sfOk_cons (ok_slices_DeleteFunc_int_int hT n) (sfOk_cons (ok_blocks_rising hT n) sfOk_nil))) itOk_nil fun a h => e_blocks_Both n a.1 a.2.1 h
theorem ok_wicketlaw05_BlocksLists (hT : LfT T) (n : Nat) : Sf1Ok T k_wicketlaw05_BlocksLists (s_wicketlaw05_BlocksLists n) := mkSf_ok (sf := sf_wicketlaw05_BlocksLists n) (it := it_wicketlaw05_BlocksLists n) (n := n) hT.t_wicketlaw05_BlocksLists (sfOk_cons (ok_wicketlaw05_awake hT n) (sfOk_cons (ok_wicketref05_Both hT n) (sfOk_cons (ok_wicketref05_Next hT n) (sfOk_cons (ok_wicketlaw05_Roomy hT n) (sfOk_cons (ok_blocks_Both hT n) (sfOk_cons (ok_blocks_Next hT n) (sfOk_cons (ok_wicketref05_Same hT n) (sfOk_cons (ok_blocks_Is hT n) (sfOk_cons (ok_wicketref05_Is hT n) (sfOk_cons (ok_blocks_Has hT n) (sfOk_cons (ok_wicketref05_Has hT n) (sfOk_cons (ok_wicketlaw05_Held hT n) (sfOk_cons (ok_wicketlaw05_turn hT n) (sfOk_cons (ok_wicketlaw05_Own hT n) (sfOk_cons (ok_wicketlaw05_Apart hT n) sfOk_nil))))))))))))))) itOk_nil fun a h => e_wicketlaw05_BlocksLists n a.1 a.2.1 a.2.2.1 h
end Go.Proofs.Ytebfdmecajomeaa
