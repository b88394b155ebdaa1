/- The functions at hand as plain typed functions, each with the proof that it is what the abstract machine's code does. -/
import Derived.Test.YtkfdikcnpaechaaPSort
import Derived.KernelRfl
namespace Go.Proofs.Ytkfdikcnpaechaa
open Go
set_option linter.unusedVariables false
set_option maxRecDepth 100000
def k_wicketlaw05_awake : Nat := 4
def k_slices_Sort_int_int : Nat := 17
def k_wicketlaw05_turn : Nat := 6
def k_wicketref05_Same : Nat := 7
def k_blocks_Is : Nat := 10
def k_blocks_Next : Nat := 11
def k_slices_Clone_int_int : Nat := 14
def k_slices_Clip_int_int : Nat := 18
def k_slices_Compact_int_int : Nat := 19
def k_slices_Index_int_int : Nat := 21
def k_blocks_rising : Nat := 12
def k_slices_Contains_int_int : Nat := 16
def k_blocks_Form : Nat := 5
def k_blocks_Has : Nat := 9
def k_blocks_Both_1 : Nat := 15
def k_slices_IndexFunc_int_int : Nat := 20
def k_slices_DeleteFunc_int_int : Nat := 13
def k_blocks_Both : Nat := 8
def k_wicketlaw05_BlocksOne : Nat := 3

def f_wicketlaw05_awake (n : Nat) (h : Heap) : Option ((Bool × Unit) × Heap) := yesB h
noncomputable def s_wicketlaw05_awake (n : Nat) : Sf1 := mkSf [] [(.tmp 0, .bool)] fun a h => f_wicketlaw05_awake n h
def PrimT_wicketlaw05_awake (T : Nat → Option AFun) : Prop := T k_wicketlaw05_awake = some ⟨[], .skip, some yes⟩
theorem primOk_wicketlaw05_awake {T : Nat → Option AFun} (hT : PrimT_wicketlaw05_awake T) (n : Nat) : Sf1Ok T k_wicketlaw05_awake (s_wicketlaw05_awake n) := yes_sf hT

def f_slices_Sort_int_int (n : Nat) (u0 : Value) (h : Heap) : Option (Unit × Heap) := (sortB h u0).map fun h' => ((), h')
noncomputable def s_slices_Sort_int_int (n : Nat) : Sf1 := mkSf [.any] [] fun a h => f_slices_Sort_int_int n a.1 h
def PrimT_slices_Sort_int_int (T : Nat → Option AFun) : Prop := T k_slices_Sort_int_int = some ⟨[], .skip, some sortM⟩
theorem primOk_slices_Sort_int_int {T : Nat → Option AFun} (hT : PrimT_slices_Sort_int_int T) (n : Nat) : Sf1Ok T k_slices_Sort_int_int (s_slices_Sort_int_int n) := sort_sf hT

/- wicket/wicketlaw05.turn -/
def c2_wicketlaw05_turn : C2 :=
  .seq (.cutn [] <|
      .seq (.reg [(⟨(some 2), .move (.const (.int .i64 0)), none⟩, (.int .i64))]) <|
      .block 0 <|
        .loop [(2, (.int .i64))] <|
          .seq (.seq (.reg [(⟨(some 3), .move (.tmp 2), none⟩, (.int .i64)),
                (⟨(some 4), .move (.tmp 0), none⟩, .any),
                (⟨(some 5), .lenS (.tmp 4), none⟩, (.int .i64)),
                (⟨(some 6), .bin .quo (.tmp 5) (.const (.int .i64 2)), none⟩, (.int .i64)),
                (⟨(some 7), .bin .lss (.tmp 3) (.tmp 6), none⟩, .bool)]) <|
            .cond (.tmp 7)
              (.skip)
              (.exit 0)) <|
          .seq (.block 1 <|
              .regd [(⟨0, [], false, ⟨(some 10), .move (.tmp 0), none⟩⟩, .any),
                (⟨1, [], false, ⟨(some 11), .move (.tmp 2), none⟩⟩, (.int .i64)),
                (⟨2, [], false, ⟨(some 12), .move (.tmp 0), none⟩⟩, .any),
                (⟨3, [], false, ⟨(some 13), .move (.tmp 0), none⟩⟩, .any),
                (⟨4, [3], false, ⟨(some 14), .lenS (.tmp 13), none⟩⟩, (.int .i64)),
                (⟨5, [4, 3], false, ⟨(some 15), .bin .sub (.tmp 14) (.const (.int .i64 1)), none⟩⟩, (.int .i64)),
                (⟨6, [], false, ⟨(some 16), .move (.tmp 2), none⟩⟩, (.int .i64)),
                (⟨7, [5, 6, 4, 3], false, ⟨(some 17), .bin .sub (.tmp 15) (.tmp 16), none⟩⟩, (.int .i64)),
                (⟨8, [], false, ⟨(some 18), .move (.tmp 0), none⟩⟩, .any),
                (⟨9, [], false, ⟨(some 19), .move (.tmp 0), none⟩⟩, .any),
                (⟨10, [9], false, ⟨(some 20), .lenS (.tmp 19), none⟩⟩, (.int .i64)),
                (⟨11, [10, 9], false, ⟨(some 21), .bin .sub (.tmp 20) (.const (.int .i64 1)), none⟩⟩, (.int .i64)),
                (⟨12, [], false, ⟨(some 22), .move (.tmp 2), none⟩⟩, (.int .i64)),
                (⟨13, [11, 12, 10, 9], false, ⟨(some 23), .bin .sub (.tmp 21) (.tmp 22), none⟩⟩, (.int .i64)),
                (⟨14, [8, 13, 11, 12, 10, 9], false, ⟨(some 24), .idxSlice 1 (.tmp 18) (.tmp 23), none⟩⟩, .ptr),
                (⟨15, [14, 8, 13, 11, 12, 10, 9], false, ⟨(some 25), .load false 1 (.tmp 24), none⟩⟩, (.int .i64)),
                (⟨16, [], false, ⟨(some 26), .move (.tmp 0), none⟩⟩, .any),
                (⟨17, [], false, ⟨(some 27), .move (.tmp 2), none⟩⟩, (.int .i64)),
                (⟨18, [16, 17], false, ⟨(some 28), .idxSlice 1 (.tmp 26) (.tmp 27), none⟩⟩, .ptr),
                (⟨19, [18, 16, 17], false, ⟨(some 29), .load false 1 (.tmp 28), none⟩⟩, (.int .i64)),
                (⟨20, [0, 1, 8, 9, 10, 11, 12, 13, 14, 15, 19, 18, 16, 17], false, ⟨(some 30), .idxSlice 1 (.tmp 10) (.tmp 11), none⟩⟩, .ptr),
                (⟨21, [20, 15, 0, 1, 8, 9, 10, 11, 12, 13, 14, 19, 18, 16, 17], true, ⟨none, .store 1 (.tmp 30) (.tmp 25), none⟩⟩, .any),
                (⟨22, [2, 7, 0, 1, 3, 4, 5, 6, 8, 9, 10, 11, 12, 13, 14, 15, 16, 17, 18, 19, 20, 21], false, ⟨(some 31), .idxSlice 1 (.tmp 12) (.tmp 17), none⟩⟩, .ptr),
                (⟨23, [22, 19, 21, 0, 1, 2, 3, 4, 5, 6, 7, 8, 9, 10, 11, 12, 13, 14, 15, 16, 17, 18, 20], true, ⟨none, .store 1 (.tmp 31) (.tmp 29), none⟩⟩, .any)]) <|
          .reg [(⟨(some 8), .move (.tmp 2), none⟩, (.int .i64)),
            (⟨(some 9), .bin .add (.tmp 8) (.const (.int .i64 1)), none⟩, (.int .i64)),
            (⟨(some 2), .move (.tmp 9), none⟩, (.int .i64))]) <|
  .seq (.reg [(⟨(some 32), .move (.tmp 0), none⟩, .any),
      (⟨(some 33), .lenS (.tmp 32), none⟩, (.int .i64)),
      (⟨(some 34), .bin .gtr (.tmp 33) (.const (.int .i64 0)), none⟩, .bool)]) <|
  .cond (.tmp 34)
    (.reg [(⟨(some 35), .move (.tmp 0), none⟩, .any),
      (⟨(some 36), .move (.tmp 0), none⟩, .any),
      (⟨(some 37), .move (.tmp 0), none⟩, .any),
      (⟨(some 38), .lenS (.tmp 37), none⟩, (.int .i64)),
      (⟨(some 39), .bin .sub (.tmp 38) (.const (.int .i64 1)), none⟩, (.int .i64)),
      (⟨(some 40), .idxSlice 1 (.tmp 36) (.tmp 39), none⟩, .ptr),
      (⟨(some 41), .load false 1 (.tmp 40), none⟩, (.int .i64)),
      (⟨(some 42), .idxSlice 1 (.tmp 35) (.const (.int .i64 0)), none⟩, .ptr),
      (⟨none, .store 1 (.tmp 42) (.tmp 41), none⟩, .any)])
    (.skip)
def f_wicketlaw05_turn_L13 (n : Nat) (u0 : Value) (v0 : Int) (h1 : Heap) : Option (((Int × Unit) × Heap) ⊕ ((Unit) × Heap)) :=
  (lenB u0).bind fun n2 =>
  bif (decide (v0 < (IntKind.i64.wrap (Int.tdiv (n2 : Int) 2)))) then
    ((lenB u0).bind fun n3 =>
    (lenB u0).bind fun n4 =>
    (ixB 1 u0 (IntKind.i64.wrap ((IntKind.i64.wrap ((n4 : Int) - 1)) - v0))).bind fun q5 =>
    (ldT (.int .i64) h1 (some q5)).bind fun x6 =>
    (ixB 1 u0 v0).bind fun q7 =>
    (ldT (.int .i64) h1 (some q7)).bind fun x8 =>
    (ixB 1 u0 v0).bind fun q9 =>
    (stB 1 (.int .i64 x6) h1 (some q9)).bind fun h10 =>
    (ixB 1 u0 (IntKind.i64.wrap ((IntKind.i64.wrap ((n3 : Int) - 1)) - v0))).bind fun q11 =>
    (stB 1 (.int .i64 x8) h10 (some q11)).bind fun h12 =>
    some (.inl (((IntKind.i64.wrap (v0 + 1)), ()), h12)))
  else
    (some (.inr ((), h1)))
noncomputable def sf_wicketlaw05_turn (n : Nat) : Sf := sfOf []
noncomputable def it_wicketlaw05_turn (n : Nat) : It := itOf []
def f_wicketlaw05_turn (n : Nat) (u0 : Value) (h : Heap) : Option ((Unit) × Heap) :=
  ((loopT (fun a => f_wicketlaw05_turn_L13 n u0 a.1.1 a.2) n ((0, ()), h)) : Option ((Unit) × Heap)).bind fun a14 =>
  (lenB u0).bind fun n15 =>
  bif (decide (0 < (n15 : Int))) then
    ((lenB u0).bind fun n16 =>
    (ixB 1 u0 (IntKind.i64.wrap ((n16 : Int) - 1))).bind fun q17 =>
    (ldT (.int .i64) a14.2 (some q17)).bind fun x18 =>
    (ixB 1 u0 0).bind fun q19 =>
    (stB 1 (.int .i64 x18) a14.2 (some q19)).bind fun h20 =>
    some ((), h20))
  else
    (some ((), a14.2))
def rs_wicketlaw05_turn : Rs := []
def ps_wicketlaw05_turn : List Ty := [.any]
theorem e_wicketlaw05_turn (n : Nat) (u0 : Value) (h : Heap) : f_wicketlaw05_turn n u0 h = fB (sf_wicketlaw05_turn n) (it_wicketlaw05_turn n) n c2_wicketlaw05_turn rs_wicketlaw05_turn ps_wicketlaw05_turn (u0, ()) h := by kernel_rfl
noncomputable def s_wicketlaw05_turn (n : Nat) : Sf1 := mkSf ps_wicketlaw05_turn rs_wicketlaw05_turn fun a h => f_wicketlaw05_turn n a.1 h

/- wicket/wicketref05.Same -/
def c2_wicketref05_Same : C2 :=
  .seq (.reg [(⟨(some 4), .move (.const (.bool false)), none⟩, .bool)]) <|
  .seq (.seq (.reg [(⟨(some 6), .move (.tmp 0), none⟩, .any),
        (⟨(some 7), .lenS (.tmp 6), none⟩, (.int .i64)),
        (⟨(some 8), .move (.tmp 1), none⟩, .any),
        (⟨(some 9), .lenS (.tmp 8), none⟩, (.int .i64)),
        (⟨(some 10), .bin .neq (.tmp 7) (.tmp 9), none⟩, .bool)]) <|
    .cond (.tmp 10)
      (.seq (.reg [(⟨(some 4), .move (.const (.bool false)), none⟩, .bool)]) <|
      .ret)
      (.skip)) <|
  .seq (.seq (.reg [(⟨(some 5), .move (.const (.int .i64 0)), none⟩, (.int .i64))]) <|
    .block 0 <|
      .loop [(5, (.int .i64))] <|
        .seq (.seq (.reg [(⟨(some 11), .move (.tmp 5), none⟩, (.int .i64)),
              (⟨(some 12), .move (.tmp 0), none⟩, .any),
              (⟨(some 13), .lenS (.tmp 12), none⟩, (.int .i64)),
              (⟨(some 14), .bin .lss (.tmp 11) (.tmp 13), none⟩, .bool)]) <|
          .cond (.tmp 14)
            (.skip)
            (.exit 0)) <|
        .seq (.block 1 <|
            .seq (.regd [(⟨0, [], false, ⟨(some 17), .move (.tmp 0), none⟩⟩, .any),
                (⟨1, [], false, ⟨(some 18), .move (.tmp 5), none⟩⟩, (.int .i64)),
                (⟨2, [0, 1], false, ⟨(some 19), .idxSlice 1 (.tmp 17) (.tmp 18), none⟩⟩, .ptr),
                (⟨3, [2, 0, 1], false, ⟨(some 20), .load false 1 (.tmp 19), none⟩⟩, (.int .i64)),
                (⟨4, [], false, ⟨(some 21), .move (.tmp 1), none⟩⟩, .any),
                (⟨5, [], false, ⟨(some 22), .move (.tmp 5), none⟩⟩, (.int .i64)),
                (⟨6, [4, 5], false, ⟨(some 23), .idxSlice 1 (.tmp 21) (.tmp 22), none⟩⟩, .ptr),
                (⟨7, [6, 4, 5], false, ⟨(some 24), .load false 1 (.tmp 23), none⟩⟩, (.int .i64)),
                (⟨8, [3, 7, 2, 0, 1, 6, 4, 5], false, ⟨(some 25), .bin .neq (.tmp 20) (.tmp 24), none⟩⟩, .bool)]) <|
            .cond (.tmp 25)
              (.seq (.reg [(⟨(some 4), .move (.const (.bool false)), none⟩, .bool)]) <|
              .ret)
              (.skip)) <|
        .reg [(⟨(some 15), .move (.tmp 5), none⟩, (.int .i64)),
          (⟨(some 16), .bin .add (.tmp 15) (.const (.int .i64 1)), none⟩, (.int .i64)),
          (⟨(some 5), .move (.tmp 16), none⟩, (.int .i64))]) <|
  .seq (.reg [(⟨(some 4), .move (.const (.bool true)), none⟩, .bool)]) <|
  .ret
def f_wicketref05_Same_L9 (n : Nat) (u1 : Value) (u0 : Value) (v2 : Int) (h3 : Heap) : Option (((Int × Unit) × Heap) ⊕ ((Bool × Unit) × Heap)) :=
  (lenB u0).bind fun n4 =>
  bif (decide (v2 < (n4 : Int))) then
    ((ixB 1 u0 v2).bind fun q5 =>
    (ldT (.int .i64) h3 (some q5)).bind fun x6 =>
    (ixB 1 u1 v2).bind fun q7 =>
    (ldT (.int .i64) h3 (some q7)).bind fun x8 =>
    bif (!decide (x6 = x8)) then
      (some (.inr ((false, ()), h3)))
    else
      (some (.inl (((IntKind.i64.wrap (v2 + 1)), ()), h3))))
  else
    (some (.inr ((true, ()), h3)))
noncomputable def sf_wicketref05_Same (n : Nat) : Sf := sfOf []
noncomputable def it_wicketref05_Same (n : Nat) : It := itOf []
def f_wicketref05_Same (n : Nat) (u0 : Value) (u1 : Value) (h : Heap) : Option ((Bool × Unit) × Heap) :=
  (lenB u0).bind fun n0 =>
  (lenB u1).bind fun n1 =>
  bif (!decide ((n0 : Int) = (n1 : Int))) then
    (some ((false, ()), h))
  else
    (loopT (fun a => f_wicketref05_Same_L9 n u1 u0 a.1.1 a.2) n ((0, ()), h))
def rs_wicketref05_Same : Rs := [(.tmp 4, .bool)]
def ps_wicketref05_Same : List Ty := [.any, .any]
theorem e_wicketref05_Same (n : Nat) (u0 : Value) (u1 : Value) (h : Heap) : f_wicketref05_Same n u0 u1 h = fB (sf_wicketref05_Same n) (it_wicketref05_Same n) n c2_wicketref05_Same rs_wicketref05_Same ps_wicketref05_Same (u0, (u1, ())) h := by kernel_rfl
noncomputable def s_wicketref05_Same (n : Nat) : Sf1 := mkSf ps_wicketref05_Same rs_wicketref05_Same fun a h => f_wicketref05_Same n a.1 a.2.1 h

/- wicket/blocks.Is -/
def c2_blocks_Is : C2 :=
  .seq (.reg [(⟨(some 2), .move (.const (.bool false)), none⟩, .bool)]) <|
  .seq (.seq (.cutn [(26, .bool)] <|
        .reg [(⟨(some 4), .move (.tmp 0), none⟩, .any),
          (⟨(some 5), .lenS (.tmp 4), none⟩, (.int .i64)),
          (⟨(some 6), .bin .lss (.tmp 5) (.const (.int .i64 1)), none⟩, .bool),
          (⟨(some 7), .move (.tmp 6), none⟩, .bool),
          (⟨(some 8), .move (.tmp 0), some (7, false)⟩, .any),
          (⟨(some 9), .lenS (.tmp 8), some (7, false)⟩, (.int .i64)),
          (⟨(some 10), .bin .gtr (.tmp 9) (.const (.int .i64 16)), some (7, false)⟩, .bool),
          (⟨(some 11), .pick (.tmp 7) (.const (.bool true)) (.tmp 10), none⟩, .bool),
          (⟨(some 12), .move (.tmp 11), none⟩, .bool),
          (⟨(some 13), .move (.tmp 0), some (12, false)⟩, .any),
          (⟨(some 14), .idxSlice 1 (.tmp 13) (.const (.int .i64 0)), some (12, false)⟩, .ptr),
          (⟨(some 15), .load false 1 (.tmp 14), some (12, false)⟩, (.int .i64)),
          (⟨(some 16), .bin .lss (.tmp 15) (.const (.int .i64 0)), some (12, false)⟩, .bool),
          (⟨(some 17), .pick (.tmp 12) (.const (.bool true)) (.tmp 16), none⟩, .bool),
          (⟨(some 18), .move (.tmp 17), none⟩, .bool),
          (⟨(some 19), .move (.tmp 0), some (18, false)⟩, .any),
          (⟨(some 20), .move (.tmp 0), some (18, false)⟩, .any),
          (⟨(some 21), .lenS (.tmp 20), some (18, false)⟩, (.int .i64)),
          (⟨(some 22), .bin .sub (.tmp 21) (.const (.int .i64 1)), some (18, false)⟩, (.int .i64)),
          (⟨(some 23), .idxSlice 1 (.tmp 19) (.tmp 22), some (18, false)⟩, .ptr),
          (⟨(some 24), .load false 1 (.tmp 23), some (18, false)⟩, (.int .i64)),
          (⟨(some 25), .bin .geq (.tmp 24) (.const (.int .i64 64)), some (18, false)⟩, .bool),
          (⟨(some 26), .pick (.tmp 18) (.const (.bool true)) (.tmp 25), none⟩, .bool)]) <|
    .cond (.tmp 26)
      (.seq (.reg [(⟨(some 2), .move (.const (.bool false)), none⟩, .bool)]) <|
      .ret)
      (.skip)) <|
  .seq (.seq (.reg [(⟨(some 3), .move (.const (.int .i64 1)), none⟩, (.int .i64))]) <|
    .block 0 <|
      .loop [(3, (.int .i64))] <|
        .seq (.seq (.reg [(⟨(some 27), .move (.tmp 3), none⟩, (.int .i64)),
              (⟨(some 28), .move (.tmp 0), none⟩, .any),
              (⟨(some 29), .lenS (.tmp 28), none⟩, (.int .i64)),
              (⟨(some 30), .bin .lss (.tmp 27) (.tmp 29), none⟩, .bool)]) <|
          .cond (.tmp 30)
            (.skip)
            (.exit 0)) <|
        .seq (.block 1 <|
            .seq (.regd [(⟨0, [], false, ⟨(some 33), .move (.tmp 0), none⟩⟩, .any),
                (⟨1, [], false, ⟨(some 34), .move (.tmp 3), none⟩⟩, (.int .i64)),
                (⟨2, [0, 1], false, ⟨(some 35), .idxSlice 1 (.tmp 33) (.tmp 34), none⟩⟩, .ptr),
                (⟨3, [2, 0, 1], false, ⟨(some 36), .load false 1 (.tmp 35), none⟩⟩, (.int .i64)),
                (⟨4, [], false, ⟨(some 37), .move (.tmp 0), none⟩⟩, .any),
                (⟨5, [], false, ⟨(some 38), .move (.tmp 3), none⟩⟩, (.int .i64)),
                (⟨6, [5], false, ⟨(some 39), .bin .sub (.tmp 38) (.const (.int .i64 1)), none⟩⟩, (.int .i64)),
                (⟨7, [4, 6, 5], false, ⟨(some 40), .idxSlice 1 (.tmp 37) (.tmp 39), none⟩⟩, .ptr),
                (⟨8, [7, 4, 6, 5], false, ⟨(some 41), .load false 1 (.tmp 40), none⟩⟩, (.int .i64)),
                (⟨9, [3, 8, 2, 0, 1, 7, 4, 6, 5], false, ⟨(some 42), .bin .leq (.tmp 36) (.tmp 41), none⟩⟩, .bool)]) <|
            .cond (.tmp 42)
              (.seq (.reg [(⟨(some 2), .move (.const (.bool false)), none⟩, .bool)]) <|
              .ret)
              (.skip)) <|
        .reg [(⟨(some 31), .move (.tmp 3), none⟩, (.int .i64)),
          (⟨(some 32), .bin .add (.tmp 31) (.const (.int .i64 1)), none⟩, (.int .i64)),
          (⟨(some 3), .move (.tmp 32), none⟩, (.int .i64))]) <|
  .seq (.reg [(⟨(some 2), .move (.const (.bool true)), none⟩, .bool)]) <|
  .ret
def f_blocks_Is_L15 (n : Nat) (u0 : Value) (v8 : Int) (h9 : Heap) : Option (((Int × Unit) × Heap) ⊕ ((Bool × Unit) × Heap)) :=
  (lenB u0).bind fun n10 =>
  bif (decide (v8 < (n10 : Int))) then
    ((ixB 1 u0 v8).bind fun q11 =>
    (ldT (.int .i64) h9 (some q11)).bind fun x12 =>
    (ixB 1 u0 (IntKind.i64.wrap (v8 - 1))).bind fun q13 =>
    (ldT (.int .i64) h9 (some q13)).bind fun x14 =>
    bif (decide (x12 ≤ x14)) then
      (some (.inr ((false, ()), h9)))
    else
      (some (.inl (((IntKind.i64.wrap (v8 + 1)), ()), h9))))
  else
    (some (.inr ((true, ()), h9)))
noncomputable def sf_blocks_Is (n : Nat) : Sf := sfOf []
noncomputable def it_blocks_Is (n : Nat) : It := itOf []
def f_blocks_Is (n : Nat) (u0 : Value) (h : Heap) : Option ((Bool × Unit) × Heap) :=
  (((lenB u0).bind fun n0 =>
    bif (decide ((n0 : Int) < 1)) then
      (some ((true, ()), h))
    else
      ((lenB u0).bind fun n1 =>
      bif (decide (16 < (n1 : Int))) then
        (some ((true, ()), h))
      else
        ((ixB 1 u0 0).bind fun q2 =>
        (ldT (.int .i64) h (some q2)).bind fun x3 =>
        bif (decide (x3 < 0)) then
          (some ((true, ()), h))
        else
          ((lenB u0).bind fun n4 =>
          (ixB 1 u0 (IntKind.i64.wrap ((n4 : Int) - 1))).bind fun q5 =>
          (ldT (.int .i64) h (some q5)).bind fun x6 =>
          some (((decide (64 ≤ x6)), ()), h))))) : Option ((Bool × Unit) × Heap)).bind fun a7 =>
  bif a7.1.1 then
    (some ((false, ()), a7.2))
  else
    (loopT (fun a => f_blocks_Is_L15 n u0 a.1.1 a.2) n ((1, ()), a7.2))
def rs_blocks_Is : Rs := [(.tmp 2, .bool)]
def ps_blocks_Is : List Ty := [.any]
theorem e_blocks_Is (n : Nat) (u0 : Value) (h : Heap) : f_blocks_Is n u0 h = fB (sf_blocks_Is n) (it_blocks_Is n) n c2_blocks_Is rs_blocks_Is ps_blocks_Is (u0, ()) h := by kernel_rfl
noncomputable def s_blocks_Is (n : Nat) : Sf1 := mkSf ps_blocks_Is rs_blocks_Is fun a h => f_blocks_Is n a.1 h

/- wicket/blocks.Next -/
def c2_blocks_Next : C2 :=
  .seq (.reg [(⟨(some 4), .move (.const (.int .i64 0)), none⟩, (.int .i64)),
      (⟨(some 5), .move (.const (.bool false)), none⟩, .bool)]) <|
  .seq (.seq (.cutn [(13, .bool)] <|
        .reg [(⟨(some 6), .move (.tmp 1), none⟩, (.int .i64)),
          (⟨(some 7), .bin .lss (.tmp 6) (.const (.int .i64 0)), none⟩, .bool),
          (⟨(some 8), .move (.tmp 7), none⟩, .bool),
          (⟨(some 9), .move (.tmp 1), some (8, false)⟩, (.int .i64)),
          (⟨(some 10), .move (.tmp 0), some (8, false)⟩, .any),
          (⟨(some 11), .lenS (.tmp 10), some (8, false)⟩, (.int .i64)),
          (⟨(some 12), .bin .geq (.tmp 9) (.tmp 11), some (8, false)⟩, .bool),
          (⟨(some 13), .pick (.tmp 8) (.const (.bool true)) (.tmp 12), none⟩, .bool)]) <|
    .cond (.tmp 13)
      (.seq (.reg [(⟨(some 4), .move (.const (.int .i64 0)), none⟩, (.int .i64)),
          (⟨(some 5), .move (.const (.bool false)), none⟩, .bool)]) <|
      .ret)
      (.skip)) <|
  .seq (.reg [(⟨(some 14), .move (.tmp 0), none⟩, .any),
      (⟨(some 15), .move (.tmp 1), none⟩, (.int .i64)),
      (⟨(some 16), .idxSlice 1 (.tmp 14) (.tmp 15), none⟩, .ptr),
      (⟨(some 17), .load false 1 (.tmp 16), none⟩, (.int .i64)),
      (⟨(some 4), .move (.tmp 17), none⟩, (.int .i64)),
      (⟨(some 5), .move (.const (.bool true)), none⟩, .bool)]) <|
  .ret
noncomputable def sf_blocks_Next (n : Nat) : Sf := sfOf []
noncomputable def it_blocks_Next (n : Nat) : It := itOf []
def f_blocks_Next (n : Nat) (u0 : Value) (u1 : Int) (h : Heap) : Option ((Int × Bool × Unit) × Heap) :=
  ((bif (decide (u1 < 0)) then
      (some ((true, ()), h))
    else
      ((lenB u0).bind fun n0 =>
      some (((decide ((n0 : Int) ≤ u1)), ()), h))) : Option ((Bool × Unit) × Heap)).bind fun a1 =>
  bif a1.1.1 then
    (some ((0, (false, ())), a1.2))
  else
    ((ixB 1 u0 u1).bind fun q2 =>
    (ldT (.int .i64) a1.2 (some q2)).bind fun x3 =>
    some ((x3, (true, ())), a1.2))
def rs_blocks_Next : Rs := [(.tmp 4, (.int .i64)), (.tmp 5, .bool)]
def ps_blocks_Next : List Ty := [.any, (.int .i64)]
theorem e_blocks_Next (n : Nat) (u0 : Value) (u1 : Int) (h : Heap) : f_blocks_Next n u0 u1 h = fB (sf_blocks_Next n) (it_blocks_Next n) n c2_blocks_Next rs_blocks_Next ps_blocks_Next (u0, (u1, ())) h := by kernel_rfl
noncomputable def s_blocks_Next (n : Nat) : Sf1 := mkSf ps_blocks_Next rs_blocks_Next fun a h => f_blocks_Next n a.1 a.2.1 h

/- slices.Clone[[]int,int] -/
def c2_slices_Clone_int_int : C2 :=
  .seq (.reg [(⟨(some 2), .move (.const (.slice none 0 0)), none⟩, .any)]) <|
  .seq (.seq (.reg [(⟨(some 3), .move (.tmp 0), none⟩, .any),
        (⟨(some 4), .eqv false .slice (.tmp 3) (.const (.slice none 0 0)), none⟩, .bool)]) <|
    .cond (.tmp 4)
      (.seq (.reg [(⟨(some 2), .move (.const (.slice none 0 0)), none⟩, .any)]) <|
      .ret)
      (.skip)) <|
  .seq (.reg [(⟨(some 5), .buildSlice 0 1 [] [], none⟩, .any),
      (⟨(some 6), .move (.tmp 0), none⟩, .any),
      (⟨(some 7), .append 8 1 (.tmp 5) (.tmp 6), none⟩, .any),
      (⟨(some 2), .move (.tmp 7), none⟩, .any)]) <|
  .ret
noncomputable def sf_slices_Clone_int_int (n : Nat) : Sf := sfOf []
noncomputable def it_slices_Clone_int_int (n : Nat) : It := itOf []
def f_slices_Clone_int_int (n : Nat) (u0 : Value) (h : Heap) : Option ((Value × Unit) × Heap) :=
  (eqVals h .slice u0 (.slice none 0 0)).bind fun b0 =>
  bif b0 then
    (some (((.slice none 0 0), ()), h))
  else
    ((fillL [] []).bind fun cs1 =>
    bnd ((Heap.new h (.cells cs1 false 1))) fun h2 =>
    (appendK h2 8 1 (.slice (some ⟨Heap.next h, 0, some 0⟩) 0 0) u0).bind fun p3 =>
    bif !isTuple p3.1 then
      (some ((p3.1, ()), p3.2))
    else
      (none))
def rs_slices_Clone_int_int : Rs := [(.tmp 2, .any)]
def ps_slices_Clone_int_int : List Ty := [.any]
theorem e_slices_Clone_int_int (n : Nat) (u0 : Value) (h : Heap) : f_slices_Clone_int_int n u0 h = fB (sf_slices_Clone_int_int n) (it_slices_Clone_int_int n) n c2_slices_Clone_int_int rs_slices_Clone_int_int ps_slices_Clone_int_int (u0, ()) h := by kernel_rfl
noncomputable def s_slices_Clone_int_int (n : Nat) : Sf1 := mkSf ps_slices_Clone_int_int rs_slices_Clone_int_int fun a h => f_slices_Clone_int_int n a.1 h

/- slices.Clip[[]int,int] -/
def c2_slices_Clip_int_int : C2 :=
  .seq (.reg [(⟨(some 2), .move (.const (.slice none 0 0)), none⟩, .any)]) <|
  .seq (.reg [(⟨(some 3), .move (.tmp 0), none⟩, .any),
      (⟨(some 4), .move (.tmp 0), none⟩, .any),
      (⟨(some 5), .lenS (.tmp 4), none⟩, (.int .i64)),
      (⟨(some 6), .move (.tmp 0), none⟩, .any),
      (⟨(some 7), .lenS (.tmp 6), none⟩, (.int .i64)),
      (⟨(some 8), .slice 1 (.tmp 3) none (some (.tmp 5)) (some (.tmp 7)), none⟩, .any),
      (⟨(some 2), .move (.tmp 8), none⟩, .any)]) <|
  .ret
noncomputable def sf_slices_Clip_int_int (n : Nat) : Sf := sfOf []
noncomputable def it_slices_Clip_int_int (n : Nat) : It := itOf []
def f_slices_Clip_int_int (n : Nat) (u0 : Value) (h : Heap) : Option ((Value × Unit) × Heap) :=
  (lenB u0).bind fun n0 =>
  (lenB u0).bind fun n1 =>
  (sliceK h 1 none (some (.int .i64 (n0 : Int))) (some (.int .i64 (n1 : Int))) u0).bind fun p2 =>
  bif !isTuple p2.1 then
    (some ((p2.1, ()), h))
  else
    (none)
def rs_slices_Clip_int_int : Rs := [(.tmp 2, .any)]
def ps_slices_Clip_int_int : List Ty := [.any]
theorem e_slices_Clip_int_int (n : Nat) (u0 : Value) (h : Heap) : f_slices_Clip_int_int n u0 h = fB (sf_slices_Clip_int_int n) (it_slices_Clip_int_int n) n c2_slices_Clip_int_int rs_slices_Clip_int_int ps_slices_Clip_int_int (u0, ()) h := by kernel_rfl
noncomputable def s_slices_Clip_int_int (n : Nat) : Sf1 := mkSf ps_slices_Clip_int_int rs_slices_Clip_int_int fun a h => f_slices_Clip_int_int n a.1 h

/- slices.Compact[[]int,int] -/
def c2_slices_Compact_int_int : C2 :=
  .seq (.reg [(⟨(some 2), .move (.const (.slice none 0 0)), none⟩, .any)]) <|
  .seq (.seq (.reg [(⟨(some 6), .move (.tmp 0), none⟩, .any),
        (⟨(some 7), .lenS (.tmp 6), none⟩, (.int .i64)),
        (⟨(some 8), .bin .lss (.tmp 7) (.const (.int .i64 2)), none⟩, .bool)]) <|
    .cond (.tmp 8)
      (.seq (.reg [(⟨(some 9), .move (.tmp 0), none⟩, .any),
          (⟨(some 2), .move (.tmp 9), none⟩, .any)]) <|
      .ret)
      (.skip)) <|
  .seq (.seq (.reg [(⟨(some 3), .move (.const (.int .i64 1)), none⟩, (.int .i64))]) <|
    .block 0 <|
      .loop [(3, (.int .i64))] <|
        .seq (.seq (.reg [(⟨(some 10), .move (.tmp 3), none⟩, (.int .i64)),
              (⟨(some 11), .move (.tmp 0), none⟩, .any),
              (⟨(some 12), .lenS (.tmp 11), none⟩, (.int .i64)),
              (⟨(some 13), .bin .lss (.tmp 10) (.tmp 12), none⟩, .bool)]) <|
          .cond (.tmp 13)
            (.skip)
            (.exit 0)) <|
        .seq (.cut [(3, (.int .i64))] <|
            .block 1 <|
              .seq (.regd [(⟨0, [], false, ⟨(some 16), .move (.tmp 0), none⟩⟩, .any),
                  (⟨1, [], false, ⟨(some 17), .move (.tmp 3), none⟩⟩, (.int .i64)),
                  (⟨2, [0, 1], false, ⟨(some 18), .idxSlice 1 (.tmp 16) (.tmp 17), none⟩⟩, .ptr),
                  (⟨3, [2, 0, 1], false, ⟨(some 19), .load false 1 (.tmp 18), none⟩⟩, (.int .i64)),
                  (⟨4, [], false, ⟨(some 20), .move (.tmp 0), none⟩⟩, .any),
                  (⟨5, [], false, ⟨(some 21), .move (.tmp 3), none⟩⟩, (.int .i64)),
                  (⟨6, [5], false, ⟨(some 22), .bin .sub (.tmp 21) (.const (.int .i64 1)), none⟩⟩, (.int .i64)),
                  (⟨7, [4, 6, 5], false, ⟨(some 23), .idxSlice 1 (.tmp 20) (.tmp 22), none⟩⟩, .ptr),
                  (⟨8, [7, 4, 6, 5], false, ⟨(some 24), .load false 1 (.tmp 23), none⟩⟩, (.int .i64)),
                  (⟨9, [3, 8, 2, 0, 1, 7, 4, 6, 5], false, ⟨(some 25), .bin .eql (.tmp 19) (.tmp 24), none⟩⟩, .bool)]) <|
              .cond (.tmp 25)
                (.seq (.reg [(⟨(some 26), .move (.tmp 0), none⟩, .any),
                    (⟨(some 27), .move (.tmp 3), none⟩, (.int .i64)),
                    (⟨(some 28), .slice 1 (.tmp 26) (some (.tmp 27)) none none, none⟩, .any),
                    (⟨(some 4), .move (.tmp 28), none⟩, .any)]) <|
                .seq (.cutn [(3, (.int .i64))] <|
                    .seq (.reg [(⟨(some 5), .move (.const (.int .i64 1)), none⟩, (.int .i64))]) <|
                    .block 2 <|
                      .loop [(3, (.int .i64)), (5, (.int .i64))] <|
                        .seq (.seq (.reg [(⟨(some 29), .move (.tmp 5), none⟩, (.int .i64)),
                              (⟨(some 30), .move (.tmp 4), none⟩, .any),
                              (⟨(some 31), .lenS (.tmp 30), none⟩, (.int .i64)),
                              (⟨(some 32), .bin .lss (.tmp 29) (.tmp 31), none⟩, .bool)]) <|
                          .cond (.tmp 32)
                            (.skip)
                            (.exit 2)) <|
                        .seq (.cutn [(3, (.int .i64))] <|
                            .block 3 <|
                              .seq (.regd [(⟨0, [], false, ⟨(some 35), .move (.tmp 4), none⟩⟩, .any),
                                  (⟨1, [], false, ⟨(some 36), .move (.tmp 5), none⟩⟩, (.int .i64)),
                                  (⟨2, [0, 1], false, ⟨(some 37), .idxSlice 1 (.tmp 35) (.tmp 36), none⟩⟩, .ptr),
                                  (⟨3, [2, 0, 1], false, ⟨(some 38), .load false 1 (.tmp 37), none⟩⟩, (.int .i64)),
                                  (⟨4, [], false, ⟨(some 39), .move (.tmp 4), none⟩⟩, .any),
                                  (⟨5, [], false, ⟨(some 40), .move (.tmp 5), none⟩⟩, (.int .i64)),
                                  (⟨6, [5], false, ⟨(some 41), .bin .sub (.tmp 40) (.const (.int .i64 1)), none⟩⟩, (.int .i64)),
                                  (⟨7, [4, 6, 5], false, ⟨(some 42), .idxSlice 1 (.tmp 39) (.tmp 41), none⟩⟩, .ptr),
                                  (⟨8, [7, 4, 6, 5], false, ⟨(some 43), .load false 1 (.tmp 42), none⟩⟩, (.int .i64)),
                                  (⟨9, [3, 8, 2, 0, 1, 7, 4, 6, 5], false, ⟨(some 44), .bin .neq (.tmp 38) (.tmp 43), none⟩⟩, .bool)]) <|
                              .cond (.tmp 44)
                                (.seq (.reg [(⟨(some 45), .move (.tmp 0), none⟩, .any),
                                    (⟨(some 46), .move (.tmp 3), none⟩, (.int .i64)),
                                    (⟨(some 47), .move (.tmp 4), none⟩, .any),
                                    (⟨(some 48), .move (.tmp 5), none⟩, (.int .i64)),
                                    (⟨(some 49), .idxSlice 1 (.tmp 47) (.tmp 48), none⟩, .ptr),
                                    (⟨(some 50), .load false 1 (.tmp 49), none⟩, (.int .i64)),
                                    (⟨(some 51), .idxSlice 1 (.tmp 45) (.tmp 46), none⟩, .ptr),
                                    (⟨none, .store 1 (.tmp 51) (.tmp 50), none⟩, .any)]) <|
                                .reg [(⟨(some 52), .move (.tmp 3), none⟩, (.int .i64)),
                                  (⟨(some 53), .bin .add (.tmp 52) (.const (.int .i64 1)), none⟩, (.int .i64)),
                                  (⟨(some 3), .move (.tmp 53), none⟩, (.int .i64))])
                                (.skip)) <|
                        .reg [(⟨(some 33), .move (.tmp 5), none⟩, (.int .i64)),
                          (⟨(some 34), .bin .add (.tmp 33) (.const (.int .i64 1)), none⟩, (.int .i64)),
                          (⟨(some 5), .move (.tmp 34), none⟩, (.int .i64))]) <|
                .seq (.reg [(⟨(some 54), .move (.tmp 0), none⟩, .any),
                    (⟨(some 55), .move (.tmp 3), none⟩, (.int .i64)),
                    (⟨(some 56), .slice 1 (.tmp 54) (some (.tmp 55)) none none, none⟩, .any),
                    (⟨none, .clear [(.int .i64 0)] (.tmp 56), none⟩, .any)]) <|
                .seq (.reg [(⟨(some 57), .move (.tmp 0), none⟩, .any),
                    (⟨(some 58), .move (.tmp 3), none⟩, (.int .i64)),
                    (⟨(some 59), .slice 1 (.tmp 57) none (some (.tmp 58)) none, none⟩, .any),
                    (⟨(some 2), .move (.tmp 59), none⟩, .any)]) <|
                .ret)
                (.skip)) <|
        .reg [(⟨(some 14), .move (.tmp 3), none⟩, (.int .i64)),
          (⟨(some 15), .bin .add (.tmp 14) (.const (.int .i64 1)), none⟩, (.int .i64)),
          (⟨(some 3), .move (.tmp 15), none⟩, (.int .i64))]) <|
  .seq (.reg [(⟨(some 60), .move (.tmp 0), none⟩, .any),
      (⟨(some 2), .move (.tmp 60), none⟩, .any)]) <|
  .ret
def f_slices_Compact_int_int_L23 (n : Nat) (u0 : Value) (p9 : (Value × Heap)) (v10 : Int) (v11 : Int) (h12 : Heap) : Option (((Int × Int × Unit) × Heap) ⊕ ((Int × Unit) × Heap)) :=
  (lenB p9.1).bind fun n13 =>
  bif (decide (v11 < (n13 : Int))) then
    ((((ixB 1 p9.1 v11).bind fun q14 =>
      (ldT (.int .i64) h12 (some q14)).bind fun x15 =>
      (ixB 1 p9.1 (IntKind.i64.wrap (v11 - 1))).bind fun q16 =>
      (ldT (.int .i64) h12 (some q16)).bind fun x17 =>
      bif (!decide (x15 = x17)) then
        ((ixB 1 p9.1 v11).bind fun q18 =>
        (ldT (.int .i64) h12 (some q18)).bind fun x19 =>
        (ixB 1 u0 v10).bind fun q20 =>
        (stB 1 (.int .i64 x19) h12 (some q20)).bind fun h21 =>
        some (((IntKind.i64.wrap (v10 + 1)), ()), h21))
      else
        (some ((v10, ()), h12))) : Option ((Int × Unit) × Heap)).bind fun a22 =>
    some (.inl ((a22.1.1, ((IntKind.i64.wrap (v11 + 1)), ())), a22.2)))
  else
    (some (.inr ((v10, ()), h12)))
def f_slices_Compact_int_int_C28 (n : Nat) (u0 : Value) (v1 : Int) (h4 : Heap) : Option (((Int × Unit) × Heap) ⊕ (((Int × Unit) × Heap) ⊕ ((Value × Unit) × Heap))) :=
  (ixB 1 u0 v1).bind fun q5 =>
  (ldT (.int .i64) h4 (some q5)).bind fun x6 =>
  (ixB 1 u0 (IntKind.i64.wrap (v1 - 1))).bind fun q7 =>
  (ldT (.int .i64) h4 (some q7)).bind fun x8 =>
  bif (decide (x6 = x8)) then
    ((sliceK h4 1 (some (.int .i64 v1)) none none u0).bind fun p9 =>
    ((loopT (fun a => f_slices_Compact_int_int_L23 n u0 p9 a.1.1 a.1.2.1 a.2) n ((v1, (1, ())), h4)) : Option ((Int × Unit) × Heap)).bind fun a24 =>
    (sliceK a24.2 1 (some (.int .i64 a24.1.1)) none none u0).bind fun p25 =>
    (clearK a24.2 [(.int .i64 0)] p25.1).bind fun p26 =>
    (sliceK p26.2 1 none (some (.int .i64 a24.1.1)) none u0).bind fun p27 =>
    Option.map Sum.inr (Option.map Sum.inr (bif !isTuple p27.1 then
      (some ((p27.1, ()), p26.2))
    else
      (none))))
  else
    (some (.inl ((v1, ()), h4)))
def f_slices_Compact_int_int_L30 (n : Nat) (u0 : Value) (v1 : Int) (h2 : Heap) : Option (((Int × Unit) × Heap) ⊕ ((Value × Unit) × Heap)) :=
  (lenB u0).bind fun n3 =>
  bif (decide (v1 < (n3 : Int))) then
    (thenB (f_slices_Compact_int_int_C28 n u0 v1 (h2)) fun a29 =>
    some (.inl (((IntKind.i64.wrap (a29.1.1 + 1)), ()), a29.2)))
  else
    (Option.map Sum.inr (bif !isTuple u0 then
      (some ((u0, ()), h2))
    else
      (none)))
noncomputable def sf_slices_Compact_int_int (n : Nat) : Sf := sfOf []
noncomputable def it_slices_Compact_int_int (n : Nat) : It := itOf []
def f_slices_Compact_int_int (n : Nat) (u0 : Value) (h : Heap) : Option ((Value × Unit) × Heap) :=
  (lenB u0).bind fun n0 =>
  bif (decide ((n0 : Int) < 2)) then
    (bif !isTuple u0 then
      (some ((u0, ()), h))
    else
      (none))
  else
    (loopT (fun a => f_slices_Compact_int_int_L30 n u0 a.1.1 a.2) n ((1, ()), h))
def rs_slices_Compact_int_int : Rs := [(.tmp 2, .any)]
def ps_slices_Compact_int_int : List Ty := [.any]
theorem e_slices_Compact_int_int (n : Nat) (u0 : Value) (h : Heap) : f_slices_Compact_int_int n u0 h = fB (sf_slices_Compact_int_int n) (it_slices_Compact_int_int n) n c2_slices_Compact_int_int rs_slices_Compact_int_int ps_slices_Compact_int_int (u0, ()) h := by kernel_rfl
noncomputable def s_slices_Compact_int_int (n : Nat) : Sf1 := mkSf ps_slices_Compact_int_int rs_slices_Compact_int_int fun a h => f_slices_Compact_int_int n a.1 h

/- slices.Index[[]int,int] -/
def c2_slices_Index_int_int : C2 :=
  .seq (.reg [(⟨(some 4), .move (.const (.int .i64 0)), none⟩, (.int .i64))]) <|
  .seq (.seq (.reg [(⟨(some 6), .move (.tmp 0), none⟩, .any),
        (⟨(some 7), .lenS (.tmp 6), none⟩, (.int .i64)),
        (⟨(some 8), .move (.const (.int .i64 0)), none⟩, (.int .i64))]) <|
    .block 0 <|
      .loop [(8, (.int .i64))] <|
        .seq (.reg [(⟨(some 9), .bin .lss (.tmp 8) (.tmp 7), none⟩, .any)]) <|
        .seq (.cond (.tmp 9)
            (.skip)
            (.exit 0)) <|
        .seq (.block 1 <|
            .seq (.reg [(⟨(some 10), .move (.tmp 8), none⟩, (.int .i64)),
                (⟨(some 5), .move (.tmp 10), none⟩, (.int .i64))]) <|
            .seq (.reg [(⟨(some 11), .move (.tmp 1), none⟩, (.int .i64)),
                (⟨(some 12), .move (.tmp 0), none⟩, .any),
                (⟨(some 13), .move (.tmp 5), none⟩, (.int .i64)),
                (⟨(some 14), .idxSlice 1 (.tmp 12) (.tmp 13), none⟩, .ptr),
                (⟨(some 15), .load false 1 (.tmp 14), none⟩, (.int .i64)),
                (⟨(some 16), .bin .eql (.tmp 11) (.tmp 15), none⟩, .bool)]) <|
            .cond (.tmp 16)
              (.seq (.reg [(⟨(some 17), .move (.tmp 5), none⟩, (.int .i64)),
                  (⟨(some 4), .move (.tmp 17), none⟩, (.int .i64))]) <|
              .ret)
              (.skip)) <|
        .reg [(⟨(some 18), .bin .add (.tmp 8) (.const (.int .i64 1)), none⟩, (.int .i64)),
          (⟨(some 8), .move (.tmp 18), none⟩, (.int .i64))]) <|
  .seq (.reg [(⟨(some 4), .move (.const (.int .i64 (-1))), none⟩, (.int .i64))]) <|
  .ret
def f_slices_Index_int_int_L5 (n : Nat) (u1 : Int) (u0 : Value) (n0 : Nat) (v1 : Int) (h2 : Heap) : Option (((Int × Unit) × Heap) ⊕ ((Int × Unit) × Heap)) :=
  bif (decide (v1 < (n0 : Int))) then
    ((ixB 1 u0 v1).bind fun q3 =>
    (ldT (.int .i64) h2 (some q3)).bind fun x4 =>
    bif (decide (u1 = x4)) then
      (some (.inr ((v1, ()), h2)))
    else
      (some (.inl (((IntKind.i64.wrap (v1 + 1)), ()), h2))))
  else
    (some (.inr (((-1), ()), h2)))
noncomputable def sf_slices_Index_int_int (n : Nat) : Sf := sfOf []
noncomputable def it_slices_Index_int_int (n : Nat) : It := itOf []
def f_slices_Index_int_int (n : Nat) (u0 : Value) (u1 : Int) (h : Heap) : Option ((Int × Unit) × Heap) :=
  (lenB u0).bind fun n0 =>
  loopT (fun a => f_slices_Index_int_int_L5 n u1 u0 n0 a.1.1 a.2) n ((0, ()), h)
def rs_slices_Index_int_int : Rs := [(.tmp 4, (.int .i64))]
def ps_slices_Index_int_int : List Ty := [.any, (.int .i64)]
theorem e_slices_Index_int_int (n : Nat) (u0 : Value) (u1 : Int) (h : Heap) : f_slices_Index_int_int n u0 u1 h = fB (sf_slices_Index_int_int n) (it_slices_Index_int_int n) n c2_slices_Index_int_int rs_slices_Index_int_int ps_slices_Index_int_int (u0, (u1, ())) h := by kernel_rfl
noncomputable def s_slices_Index_int_int (n : Nat) : Sf1 := mkSf ps_slices_Index_int_int rs_slices_Index_int_int fun a h => f_slices_Index_int_int n a.1 a.2.1 h

/- wicket/blocks.rising -/
def c2_blocks_rising : C2 :=
  .seq (.reg [(⟨(some 2), .move (.const (.slice none 0 0)), none⟩, .any)]) <|
  .seq (.reg [(⟨(some 4), .move (.tmp 0), none⟩, .any),
      (⟨(some 5), .call k_slices_Clone_int_int [(.tmp 4)], none⟩, .any),
      (⟨(some 3), .move (.tmp 5), none⟩, .any)]) <|
  .seq (.reg [(⟨(some 6), .move (.tmp 3), none⟩, .any),
      (⟨(some 7), .call k_slices_Sort_int_int [(.tmp 6)], none⟩, .any)]) <|
  .seq (.reg [(⟨(some 8), .move (.tmp 3), none⟩, .any),
      (⟨(some 9), .call k_slices_Compact_int_int [(.tmp 8)], none⟩, .any),
      (⟨(some 10), .call k_slices_Clip_int_int [(.tmp 9)], none⟩, .any),
      (⟨(some 2), .move (.tmp 10), none⟩, .any)]) <|
  .ret
noncomputable def sf_blocks_rising (n : Nat) : Sf := sfOf [(k_slices_Clone_int_int, s_slices_Clone_int_int n), (k_slices_Sort_int_int, s_slices_Sort_int_int n), (k_slices_Compact_int_int, s_slices_Compact_int_int n), (k_slices_Clip_int_int, s_slices_Clip_int_int n)]
noncomputable def it_blocks_rising (n : Nat) : It := itOf []
def f_blocks_rising (n : Nat) (u0 : Value) (h : Heap) : Option ((Value × Unit) × Heap) :=
  (f_slices_Clone_int_int n u0 h).bind fun p0 =>
  (f_slices_Sort_int_int n p0.1.1 p0.2).bind fun p1 =>
  (f_slices_Compact_int_int n p0.1.1 p1.2).bind fun p2 =>
  (f_slices_Clip_int_int n p2.1.1 p2.2).bind fun p3 =>
  bif !isTuple p3.1.1 then
    (some ((p3.1.1, ()), p3.2))
  else
    (none)
def rs_blocks_rising : Rs := [(.tmp 2, .any)]
def ps_blocks_rising : List Ty := [.any]
theorem e_blocks_rising (n : Nat) (u0 : Value) (h : Heap) : f_blocks_rising n u0 h = fB (sf_blocks_rising n) (it_blocks_rising n) n c2_blocks_rising rs_blocks_rising ps_blocks_rising (u0, ()) h := by kernel_rfl
noncomputable def s_blocks_rising (n : Nat) : Sf1 := mkSf ps_blocks_rising rs_blocks_rising fun a h => f_blocks_rising n a.1 h

/- slices.Contains[[]int,int] -/
def c2_slices_Contains_int_int : C2 :=
  .seq (.reg [(⟨(some 4), .move (.const (.bool false)), none⟩, .bool)]) <|
  .seq (.reg [(⟨(some 5), .move (.tmp 0), none⟩, .any),
      (⟨(some 6), .move (.tmp 1), none⟩, (.int .i64)),
      (⟨(some 7), .call k_slices_Index_int_int [(.tmp 5), (.tmp 6)], none⟩, (.int .i64)),
      (⟨(some 8), .bin .geq (.tmp 7) (.const (.int .i64 0)), none⟩, .bool),
      (⟨(some 4), .move (.tmp 8), none⟩, .bool)]) <|
  .ret
noncomputable def sf_slices_Contains_int_int (n : Nat) : Sf := sfOf [(k_slices_Index_int_int, s_slices_Index_int_int n)]
noncomputable def it_slices_Contains_int_int (n : Nat) : It := itOf []
def f_slices_Contains_int_int (n : Nat) (u0 : Value) (u1 : Int) (h : Heap) : Option ((Bool × Unit) × Heap) :=
  (f_slices_Index_int_int n u0 u1 h).bind fun p0 =>
  some (((decide (0 ≤ p0.1.1)), ()), p0.2)
def rs_slices_Contains_int_int : Rs := [(.tmp 4, .bool)]
def ps_slices_Contains_int_int : List Ty := [.any, (.int .i64)]
theorem e_slices_Contains_int_int (n : Nat) (u0 : Value) (u1 : Int) (h : Heap) : f_slices_Contains_int_int n u0 u1 h = fB (sf_slices_Contains_int_int n) (it_slices_Contains_int_int n) n c2_slices_Contains_int_int rs_slices_Contains_int_int ps_slices_Contains_int_int (u0, (u1, ())) h := by kernel_rfl
noncomputable def s_slices_Contains_int_int (n : Nat) : Sf1 := mkSf ps_slices_Contains_int_int rs_slices_Contains_int_int fun a h => f_slices_Contains_int_int n a.1 a.2.1 h

/- wicket/blocks.Form -/
def c2_blocks_Form : C2 :=
  .seq (.reg [(⟨(some 6), .move (.const (.slice none 0 0)), none⟩, .any),
      (⟨(some 7), .move (.const (.int .i64 0)), none⟩, (.int .i64))]) <|
  .seq (.seq (.cutn [(27, .bool)] <|
        .reg [(⟨(some 9), .move (.tmp 1), none⟩, (.int .i64)),
          (⟨(some 10), .bin .lss (.tmp 9) (.const (.int .i64 1)), none⟩, .bool),
          (⟨(some 11), .move (.tmp 10), none⟩, .bool),
          (⟨(some 12), .move (.tmp 1), some (11, false)⟩, (.int .i64)),
          (⟨(some 13), .bin .gtr (.tmp 12) (.const (.int .i64 64)), some (11, false)⟩, .bool),
          (⟨(some 14), .pick (.tmp 11) (.const (.bool true)) (.tmp 13), none⟩, .bool),
          (⟨(some 15), .move (.tmp 14), none⟩, .bool),
          (⟨(some 16), .move (.tmp 2), some (15, false)⟩, (.int .i64)),
          (⟨(some 17), .bin .lss (.tmp 16) (.const (.int .i64 1)), some (15, false)⟩, .bool),
          (⟨(some 18), .pick (.tmp 15) (.const (.bool true)) (.tmp 17), none⟩, .bool),
          (⟨(some 19), .move (.tmp 18), none⟩, .bool),
          (⟨(some 20), .move (.tmp 2), some (19, false)⟩, (.int .i64)),
          (⟨(some 21), .bin .gtr (.tmp 20) (.const (.int .i64 16)), some (19, false)⟩, .bool),
          (⟨(some 22), .pick (.tmp 19) (.const (.bool true)) (.tmp 21), none⟩, .bool),
          (⟨(some 23), .move (.tmp 22), none⟩, .bool),
          (⟨(some 24), .move (.tmp 2), some (23, false)⟩, (.int .i64)),
          (⟨(some 25), .move (.tmp 1), some (23, false)⟩, (.int .i64)),
          (⟨(some 26), .bin .gtr (.tmp 24) (.tmp 25), some (23, false)⟩, .bool),
          (⟨(some 27), .pick (.tmp 23) (.const (.bool true)) (.tmp 26), none⟩, .bool)]) <|
    .cond (.tmp 27)
      (.seq (.reg [(⟨(some 6), .move (.const (.slice none 0 0)), none⟩, .any),
          (⟨(some 7), .move (.const (.int .i64 2)), none⟩, (.int .i64))]) <|
      .ret)
      (.skip)) <|
  .seq (.seq (.reg [(⟨(some 28), .move (.tmp 0), none⟩, .any),
        (⟨(some 29), .lenS (.tmp 28), none⟩, (.int .i64)),
        (⟨(some 30), .bin .eql (.tmp 29) (.const (.int .i64 0)), none⟩, .bool)]) <|
    .cond (.tmp 30)
      (.seq (.reg [(⟨(some 6), .move (.const (.slice none 0 0)), none⟩, .any),
          (⟨(some 7), .move (.const (.int .i64 50)), none⟩, (.int .i64))]) <|
      .ret)
      (.skip)) <|
  .seq (.reg [(⟨(some 31), .move (.tmp 0), none⟩, .any),
      (⟨(some 32), .call k_blocks_rising [(.tmp 31)], none⟩, .any),
      (⟨(some 8), .move (.tmp 32), none⟩, .any)]) <|
  .seq (.block 0 <|
      .seq (.cutn [(33, .bool)] <|
          .reg [(⟨(some 34), .move (.tmp 8), none⟩, .any),
            (⟨(some 35), .idxSlice 1 (.tmp 34) (.const (.int .i64 0)), none⟩, .ptr),
            (⟨(some 36), .load false 1 (.tmp 35), none⟩, (.int .i64)),
            (⟨(some 37), .bin .lss (.tmp 36) (.const (.int .i64 0)), none⟩, .bool),
            (⟨(some 38), .move (.tmp 37), none⟩, .bool),
            (⟨(some 39), .move (.tmp 8), some (38, false)⟩, .any),
            (⟨(some 40), .move (.tmp 8), some (38, false)⟩, .any),
            (⟨(some 41), .lenS (.tmp 40), some (38, false)⟩, (.int .i64)),
            (⟨(some 42), .bin .sub (.tmp 41) (.const (.int .i64 1)), some (38, false)⟩, (.int .i64)),
            (⟨(some 43), .idxSlice 1 (.tmp 39) (.tmp 42), some (38, false)⟩, .ptr),
            (⟨(some 44), .load false 1 (.tmp 43), some (38, false)⟩, (.int .i64)),
            (⟨(some 45), .move (.tmp 1), some (38, false)⟩, (.int .i64)),
            (⟨(some 46), .bin .geq (.tmp 44) (.tmp 45), some (38, false)⟩, .bool),
            (⟨(some 47), .pick (.tmp 38) (.const (.bool true)) (.tmp 46), none⟩, .bool),
            (⟨(some 33), .move (.tmp 47), none⟩, .bool)]) <|
      .cond (.tmp 33)
        (.seq (.reg [(⟨(some 6), .move (.const (.slice none 0 0)), none⟩, .any),
            (⟨(some 7), .move (.const (.int .i64 51)), none⟩, (.int .i64))]) <|
        .ret)
        (.seq (.reg [(⟨(some 49), .move (.tmp 8), none⟩, .any),
            (⟨(some 50), .lenS (.tmp 49), none⟩, (.int .i64)),
            (⟨(some 51), .move (.tmp 2), none⟩, (.int .i64)),
            (⟨(some 52), .bin .gtr (.tmp 50) (.tmp 51), none⟩, .bool),
            (⟨(some 48), .move (.tmp 52), none⟩, .bool)]) <|
        .cond (.tmp 48)
          (.seq (.reg [(⟨(some 6), .move (.const (.slice none 0 0)), none⟩, .any),
              (⟨(some 7), .move (.const (.int .i64 52)), none⟩, (.int .i64))]) <|
          .ret)
          (.skip))) <|
  .seq (.reg [(⟨(some 53), .move (.tmp 8), none⟩, .any),
      (⟨(some 6), .move (.tmp 53), none⟩, .any),
      (⟨(some 7), .move (.const (.int .i64 0)), none⟩, (.int .i64))]) <|
  .ret
noncomputable def sf_blocks_Form (n : Nat) : Sf := sfOf [(k_blocks_rising, s_blocks_rising n)]
noncomputable def it_blocks_Form (n : Nat) : It := itOf []
def f_blocks_Form (n : Nat) (u0 : Value) (u1 : Int) (u2 : Int) (h : Heap) : Option ((Value × Int × Unit) × Heap) :=
  ((bif (decide (u1 < 1)) then
      (some ((true, ()), h))
    else
      (bif (decide (64 < u1)) then
        (some ((true, ()), h))
      else
        (bif (decide (u2 < 1)) then
          (some ((true, ()), h))
        else
          (bif (decide (16 < u2)) then
            (some ((true, ()), h))
          else
            (some (((decide (u1 < u2)), ()), h)))))) : Option ((Bool × Unit) × Heap)).bind fun a0 =>
  bif a0.1.1 then
    (some (((.slice none 0 0), (2, ())), a0.2))
  else
    ((lenB u0).bind fun n1 =>
    bif (decide ((n1 : Int) = 0)) then
      (some (((.slice none 0 0), (50, ())), a0.2))
    else
      ((f_blocks_rising n u0 a0.2).bind fun p2 =>
      (((ixB 1 p2.1.1 0).bind fun q3 =>
        (ldT (.int .i64) p2.2 (some q3)).bind fun x4 =>
        bif (decide (x4 < 0)) then
          (some ((true, ()), p2.2))
        else
          ((lenB p2.1.1).bind fun n5 =>
          (ixB 1 p2.1.1 (IntKind.i64.wrap ((n5 : Int) - 1))).bind fun q6 =>
          (ldT (.int .i64) p2.2 (some q6)).bind fun x7 =>
          some (((decide (u1 ≤ x7)), ()), p2.2))) : Option ((Bool × Unit) × Heap)).bind fun a8 =>
      bif a8.1.1 then
        (some (((.slice none 0 0), (51, ())), a8.2))
      else
        ((lenB p2.1.1).bind fun n9 =>
        bif (decide (u2 < (n9 : Int))) then
          (some (((.slice none 0 0), (52, ())), a8.2))
        else
          (bif !isTuple p2.1.1 then
            (some ((p2.1.1, (0, ())), a8.2))
          else
            (none)))))
def rs_blocks_Form : Rs := [(.tmp 6, .any), (.tmp 7, (.int .i64))]
def ps_blocks_Form : List Ty := [.any, (.int .i64), (.int .i64)]
theorem e_blocks_Form (n : Nat) (u0 : Value) (u1 : Int) (u2 : Int) (h : Heap) : f_blocks_Form n u0 u1 u2 h = fB (sf_blocks_Form n) (it_blocks_Form n) n c2_blocks_Form rs_blocks_Form ps_blocks_Form (u0, (u1, (u2, ()))) h := by kernel_rfl
noncomputable def s_blocks_Form (n : Nat) : Sf1 := mkSf ps_blocks_Form rs_blocks_Form fun a h => f_blocks_Form n a.1 a.2.1 a.2.2.1 h

/- wicket/blocks.Has -/
def c2_blocks_Has : C2 :=
  .seq (.reg [(⟨(some 4), .move (.const (.bool false)), none⟩, .bool)]) <|
  .seq (.reg [(⟨(some 5), .move (.tmp 0), none⟩, .any),
      (⟨(some 6), .move (.tmp 1), none⟩, (.int .i64)),
      (⟨(some 7), .call k_slices_Contains_int_int [(.tmp 5), (.tmp 6)], none⟩, .bool),
      (⟨(some 4), .move (.tmp 7), none⟩, .bool)]) <|
  .ret
noncomputable def sf_blocks_Has (n : Nat) : Sf := sfOf [(k_slices_Contains_int_int, s_slices_Contains_int_int n)]
noncomputable def it_blocks_Has (n : Nat) : It := itOf []
def f_blocks_Has (n : Nat) (u0 : Value) (u1 : Int) (h : Heap) : Option ((Bool × Unit) × Heap) :=
  (f_slices_Contains_int_int n u0 u1 h).bind fun p0 =>
  some ((p0.1.1, ()), p0.2)
def rs_blocks_Has : Rs := [(.tmp 4, .bool)]
def ps_blocks_Has : List Ty := [.any, (.int .i64)]
theorem e_blocks_Has (n : Nat) (u0 : Value) (u1 : Int) (h : Heap) : f_blocks_Has n u0 u1 h = fB (sf_blocks_Has n) (it_blocks_Has n) n c2_blocks_Has rs_blocks_Has ps_blocks_Has (u0, (u1, ())) h := by kernel_rfl
noncomputable def s_blocks_Has (n : Nat) : Sf1 := mkSf ps_blocks_Has rs_blocks_Has fun a h => f_blocks_Has n a.1 a.2.1 h

/- wicket/blocks.Both$1 -/
def c2_blocks_Both_1 : C2 :=
  .seq (.reg [(⟨(some 3), .move (.const (.bool false)), none⟩, .bool)]) <|
  .seq (.reg [(⟨(some 4), .load false 1 (.tmp 1), none⟩, .any),
      (⟨(some 5), .move (.tmp 0), none⟩, (.int .i64)),
      (⟨(some 6), .call k_blocks_Has [(.tmp 4), (.tmp 5)], none⟩, .bool),
      (⟨(some 7), .un .not (.tmp 6), none⟩, .bool),
      (⟨(some 3), .move (.tmp 7), none⟩, .bool)]) <|
  .ret
noncomputable def sf_blocks_Both_1 (n : Nat) : Sf := sfOf [(k_blocks_Has, s_blocks_Has n)]
noncomputable def it_blocks_Both_1 (n : Nat) : It := itOf []
def f_blocks_Both_1 (n : Nat) (u0 : Int) (u1 : Option Addr) (h : Heap) : Option ((Bool × Unit) × Heap) :=
  (ldT .any h u1).bind fun x0 =>
  (f_blocks_Has n x0 u0 h).bind fun p1 =>
  some (((!p1.1.1), ()), p1.2)
def rs_blocks_Both_1 : Rs := [(.tmp 3, .bool)]
def ps_blocks_Both_1 : List Ty := [(.int .i64), .ptr]
theorem e_blocks_Both_1 (n : Nat) (u0 : Int) (u1 : Option Addr) (h : Heap) : f_blocks_Both_1 n u0 u1 h = fB (sf_blocks_Both_1 n) (it_blocks_Both_1 n) n c2_blocks_Both_1 rs_blocks_Both_1 ps_blocks_Both_1 (u0, (u1, ())) h := by kernel_rfl
noncomputable def s_blocks_Both_1 (n : Nat) : Sf1 := mkSf ps_blocks_Both_1 rs_blocks_Both_1 fun a h => f_blocks_Both_1 n a.1 a.2.1 h

/- slices.IndexFunc[[]int,int] -/
def c2_slices_IndexFunc_int_int : C2 :=
  .seq (.reg [(⟨(some 4), .move (.const (.int .i64 0)), none⟩, (.int .i64))]) <|
  .seq (.seq (.reg [(⟨(some 6), .move (.tmp 0), none⟩, .any),
        (⟨(some 7), .lenS (.tmp 6), none⟩, (.int .i64)),
        (⟨(some 8), .move (.const (.int .i64 0)), none⟩, (.int .i64))]) <|
    .block 0 <|
      .loop [(8, (.int .i64))] <|
        .seq (.reg [(⟨(some 9), .bin .lss (.tmp 8) (.tmp 7), none⟩, .any)]) <|
        .seq (.cond (.tmp 9)
            (.skip)
            (.exit 0)) <|
        .seq (.block 1 <|
            .seq (.reg [(⟨(some 10), .move (.tmp 8), none⟩, (.int .i64)),
                (⟨(some 5), .move (.tmp 10), none⟩, (.int .i64))]) <|
            .seq (.reg [(⟨(some 11), .move (.tmp 1), none⟩, (.fn k_blocks_Both_1 1)),
                (⟨(some 12), .move (.tmp 0), none⟩, .any),
                (⟨(some 13), .move (.tmp 5), none⟩, (.int .i64)),
                (⟨(some 14), .idxSlice 1 (.tmp 12) (.tmp 13), none⟩, .ptr),
                (⟨(some 15), .load false 1 (.tmp 14), none⟩, (.int .i64)),
                (⟨(some 16), .callv (.tmp 11) [(.tmp 15)], none⟩, .bool)]) <|
            .cond (.tmp 16)
              (.seq (.reg [(⟨(some 17), .move (.tmp 5), none⟩, (.int .i64)),
                  (⟨(some 4), .move (.tmp 17), none⟩, (.int .i64))]) <|
              .ret)
              (.skip)) <|
        .reg [(⟨(some 18), .bin .add (.tmp 8) (.const (.int .i64 1)), none⟩, (.int .i64)),
          (⟨(some 8), .move (.tmp 18), none⟩, (.int .i64))]) <|
  .seq (.reg [(⟨(some 4), .move (.const (.int .i64 (-1))), none⟩, (.int .i64))]) <|
  .ret
def f_slices_IndexFunc_int_int_L6 (n : Nat) (u1 : Ptrs 1) (u0 : Value) (n0 : Nat) (v1 : Int) (h2 : Heap) : Option (((Int × Unit) × Heap) ⊕ ((Int × Unit) × Heap)) :=
  bif (decide (v1 < (n0 : Int))) then
    ((ixB 1 u0 v1).bind fun q3 =>
    (ldT (.int .i64) h2 (some q3)).bind fun x4 =>
    (f_blocks_Both_1 n x4 u1.1 h2).bind fun p5 =>
    bif p5.1.1 then
      (some (.inr ((v1, ()), p5.2)))
    else
      (some (.inl (((IntKind.i64.wrap (v1 + 1)), ()), p5.2))))
  else
    (some (.inr (((-1), ()), h2)))
noncomputable def sf_slices_IndexFunc_int_int (n : Nat) : Sf := sfOf [(k_blocks_Both_1, s_blocks_Both_1 n)]
noncomputable def it_slices_IndexFunc_int_int (n : Nat) : It := itOf []
def f_slices_IndexFunc_int_int (n : Nat) (u0 : Value) (u1 : Ptrs 1) (h : Heap) : Option ((Int × Unit) × Heap) :=
  (lenB u0).bind fun n0 =>
  loopT (fun a => f_slices_IndexFunc_int_int_L6 n u1 u0 n0 a.1.1 a.2) n ((0, ()), h)
def rs_slices_IndexFunc_int_int : Rs := [(.tmp 4, (.int .i64))]
def ps_slices_IndexFunc_int_int : List Ty := [.any, (.fn k_blocks_Both_1 1)]
theorem e_slices_IndexFunc_int_int (n : Nat) (u0 : Value) (u1 : Ptrs 1) (h : Heap) : f_slices_IndexFunc_int_int n u0 u1 h = fB (sf_slices_IndexFunc_int_int n) (it_slices_IndexFunc_int_int n) n c2_slices_IndexFunc_int_int rs_slices_IndexFunc_int_int ps_slices_IndexFunc_int_int (u0, (u1, ())) h := by kernel_rfl
noncomputable def s_slices_IndexFunc_int_int (n : Nat) : Sf1 := mkSf ps_slices_IndexFunc_int_int rs_slices_IndexFunc_int_int fun a h => f_slices_IndexFunc_int_int n a.1 a.2.1 h

/- slices.DeleteFunc[[]int,int] -/
def c2_slices_DeleteFunc_int_int : C2 :=
  .seq (.reg [(⟨(some 4), .move (.const (.slice none 0 0)), none⟩, .any)]) <|
  .seq (.reg [(⟨(some 8), .move (.tmp 0), none⟩, .any),
      (⟨(some 9), .move (.tmp 1), none⟩, (.fn k_blocks_Both_1 1)),
      (⟨(some 10), .call k_slices_IndexFunc_int_int [(.tmp 8), (.tmp 9)], none⟩, (.int .i64)),
      (⟨(some 5), .move (.tmp 10), none⟩, (.int .i64))]) <|
  .seq (.seq (.reg [(⟨(some 11), .move (.tmp 5), none⟩, (.int .i64)),
        (⟨(some 12), .bin .eql (.tmp 11) (.const (.int .i64 (-1))), none⟩, .bool)]) <|
    .cond (.tmp 12)
      (.seq (.reg [(⟨(some 13), .move (.tmp 0), none⟩, .any),
          (⟨(some 4), .move (.tmp 13), none⟩, .any)]) <|
      .ret)
      (.skip)) <|
  .seq (.cutn [(5, (.int .i64))] <|
      .seq (.reg [(⟨(some 14), .move (.tmp 5), none⟩, (.int .i64)),
          (⟨(some 15), .bin .add (.tmp 14) (.const (.int .i64 1)), none⟩, (.int .i64)),
          (⟨(some 6), .move (.tmp 15), none⟩, (.int .i64))]) <|
      .block 0 <|
        .loop [(5, (.int .i64)), (6, (.int .i64))] <|
          .seq (.seq (.reg [(⟨(some 16), .move (.tmp 6), none⟩, (.int .i64)),
                (⟨(some 17), .move (.tmp 0), none⟩, .any),
                (⟨(some 18), .lenS (.tmp 17), none⟩, (.int .i64)),
                (⟨(some 19), .bin .lss (.tmp 16) (.tmp 18), none⟩, .bool)]) <|
            .cond (.tmp 19)
              (.skip)
              (.exit 0)) <|
          .seq (.cutn [(5, (.int .i64))] <|
              .block 1 <|
                .seq (.reg [(⟨(some 22), .move (.tmp 0), none⟩, .any),
                    (⟨(some 23), .move (.tmp 6), none⟩, (.int .i64)),
                    (⟨(some 24), .idxSlice 1 (.tmp 22) (.tmp 23), none⟩, .ptr),
                    (⟨(some 25), .load false 1 (.tmp 24), none⟩, (.int .i64)),
                    (⟨(some 7), .move (.tmp 25), none⟩, (.int .i64))]) <|
                .seq (.reg [(⟨(some 26), .move (.tmp 1), none⟩, (.fn k_blocks_Both_1 1)),
                    (⟨(some 27), .move (.tmp 7), none⟩, (.int .i64)),
                    (⟨(some 28), .callv (.tmp 26) [(.tmp 27)], none⟩, .bool),
                    (⟨(some 29), .un .not (.tmp 28), none⟩, .bool)]) <|
                .cond (.tmp 29)
                  (.seq (.reg [(⟨(some 30), .move (.tmp 0), none⟩, .any),
                      (⟨(some 31), .move (.tmp 5), none⟩, (.int .i64)),
                      (⟨(some 32), .move (.tmp 7), none⟩, (.int .i64)),
                      (⟨(some 33), .idxSlice 1 (.tmp 30) (.tmp 31), none⟩, .ptr),
                      (⟨none, .store 1 (.tmp 33) (.tmp 32), none⟩, .any)]) <|
                  .reg [(⟨(some 34), .move (.tmp 5), none⟩, (.int .i64)),
                    (⟨(some 35), .bin .add (.tmp 34) (.const (.int .i64 1)), none⟩, (.int .i64)),
                    (⟨(some 5), .move (.tmp 35), none⟩, (.int .i64))])
                  (.skip)) <|
          .reg [(⟨(some 20), .move (.tmp 6), none⟩, (.int .i64)),
            (⟨(some 21), .bin .add (.tmp 20) (.const (.int .i64 1)), none⟩, (.int .i64)),
            (⟨(some 6), .move (.tmp 21), none⟩, (.int .i64))]) <|
  .seq (.reg [(⟨(some 36), .move (.tmp 0), none⟩, .any),
      (⟨(some 37), .move (.tmp 5), none⟩, (.int .i64)),
      (⟨(some 38), .slice 1 (.tmp 36) (some (.tmp 37)) none none, none⟩, .any),
      (⟨none, .clear [(.int .i64 0)] (.tmp 38), none⟩, .any)]) <|
  .seq (.reg [(⟨(some 39), .move (.tmp 0), none⟩, .any),
      (⟨(some 40), .move (.tmp 5), none⟩, (.int .i64)),
      (⟨(some 41), .slice 1 (.tmp 39) none (some (.tmp 40)) none, none⟩, .any),
      (⟨(some 4), .move (.tmp 41), none⟩, .any)]) <|
  .ret
def f_slices_DeleteFunc_int_int_L11 (n : Nat) (u1 : Ptrs 1) (u0 : Value) (v1 : Int) (v2 : Int) (h3 : Heap) : Option (((Int × Int × Unit) × Heap) ⊕ ((Int × Unit) × Heap)) :=
  (lenB u0).bind fun n4 =>
  bif (decide (v2 < (n4 : Int))) then
    ((((ixB 1 u0 v2).bind fun q5 =>
      (ldT (.int .i64) h3 (some q5)).bind fun x6 =>
      (f_blocks_Both_1 n x6 u1.1 h3).bind fun p7 =>
      bif (!p7.1.1) then
        ((ixB 1 u0 v1).bind fun q8 =>
        (stB 1 (.int .i64 x6) p7.2 (some q8)).bind fun h9 =>
        some (((IntKind.i64.wrap (v1 + 1)), ()), h9))
      else
        (some ((v1, ()), p7.2))) : Option ((Int × Unit) × Heap)).bind fun a10 =>
    some (.inl ((a10.1.1, ((IntKind.i64.wrap (v2 + 1)), ())), a10.2)))
  else
    (some (.inr ((v1, ()), h3)))
noncomputable def sf_slices_DeleteFunc_int_int (n : Nat) : Sf := sfOf [(k_slices_IndexFunc_int_int, s_slices_IndexFunc_int_int n), (k_blocks_Both_1, s_blocks_Both_1 n)]
noncomputable def it_slices_DeleteFunc_int_int (n : Nat) : It := itOf []
def f_slices_DeleteFunc_int_int (n : Nat) (u0 : Value) (u1 : Ptrs 1) (h : Heap) : Option ((Value × Unit) × Heap) :=
  (f_slices_IndexFunc_int_int n u0 u1 h).bind fun p0 =>
  bif (decide (p0.1.1 = (-1))) then
    (bif !isTuple u0 then
      (some ((u0, ()), p0.2))
    else
      (none))
  else
    (((loopT (fun a => f_slices_DeleteFunc_int_int_L11 n u1 u0 a.1.1 a.1.2.1 a.2) n ((p0.1.1, ((IntKind.i64.wrap (p0.1.1 + 1)), ())), p0.2)) : Option ((Int × Unit) × Heap)).bind fun a12 =>
    (sliceK a12.2 1 (some (.int .i64 a12.1.1)) none none u0).bind fun p13 =>
    (clearK a12.2 [(.int .i64 0)] p13.1).bind fun p14 =>
    (sliceK p14.2 1 none (some (.int .i64 a12.1.1)) none u0).bind fun p15 =>
    bif !isTuple p15.1 then
      (some ((p15.1, ()), p14.2))
    else
      (none))
def rs_slices_DeleteFunc_int_int : Rs := [(.tmp 4, .any)]
def ps_slices_DeleteFunc_int_int : List Ty := [.any, (.fn k_blocks_Both_1 1)]
theorem e_slices_DeleteFunc_int_int (n : Nat) (u0 : Value) (u1 : Ptrs 1) (h : Heap) : f_slices_DeleteFunc_int_int n u0 u1 h = fB (sf_slices_DeleteFunc_int_int n) (it_slices_DeleteFunc_int_int n) n c2_slices_DeleteFunc_int_int rs_slices_DeleteFunc_int_int ps_slices_DeleteFunc_int_int (u0, (u1, ())) h := by kernel_rfl
noncomputable def s_slices_DeleteFunc_int_int (n : Nat) : Sf1 := mkSf ps_slices_DeleteFunc_int_int rs_slices_DeleteFunc_int_int fun a h => f_slices_DeleteFunc_int_int n a.1 a.2.1 h

/- wicket/blocks.Both -/
def c2_blocks_Both : C2 :=
  .seq (.reg [(⟨(some 3), .box (.tmp 1), none⟩, .ptr),
      (⟨(some 4), .move (.const (.slice none 0 0)), none⟩, .any)]) <|
  .seq (.reg [(⟨(some 5), .move (.tmp 0), none⟩, .any),
      (⟨(some 6), .call k_slices_Clone_int_int [(.tmp 5)], none⟩, .any),
      (⟨(some 7), .makeFunc k_blocks_Both_1 [] [(.tmp 3)], none⟩, (.fn k_blocks_Both_1 1)),
      (⟨(some 8), .call k_slices_DeleteFunc_int_int [(.tmp 6), (.tmp 7)], none⟩, .any),
      (⟨(some 9), .call k_blocks_rising [(.tmp 8)], none⟩, .any),
      (⟨(some 4), .move (.tmp 9), none⟩, .any)]) <|
  .ret
noncomputable def sf_blocks_Both (n : Nat) : Sf := sfOf [(k_slices_Clone_int_int, s_slices_Clone_int_int n), (k_slices_DeleteFunc_int_int, s_slices_DeleteFunc_int_int n), (k_blocks_rising, s_blocks_rising n)]
noncomputable def it_blocks_Both (n : Nat) : It := itOf []
def f_blocks_Both (n : Nat) (u0 : Value) (u1 : Value) (h : Heap) : Option ((Value × Unit) × Heap) :=
  bif (cellsOf u1).all isCell then
    (bnd ((Heap.new h (.cells (cellsOf u1) false 0))) fun h0 =>
    (f_slices_Clone_int_int n u0 h0).bind fun p1 =>
    (f_slices_DeleteFunc_int_int n p1.1.1 ((some (nwA h)), ()) p1.2).bind fun p2 =>
    (f_blocks_rising n p2.1.1 p2.2).bind fun p3 =>
    bif !isTuple p3.1.1 then
      (some ((p3.1.1, ()), p3.2))
    else
      (none))
  else
    (none)
def rs_blocks_Both : Rs := [(.tmp 4, .any)]
def ps_blocks_Both : List Ty := [.any, .any]
theorem e_blocks_Both (n : Nat) (u0 : Value) (u1 : Value) (h : Heap) : f_blocks_Both n u0 u1 h = fB (sf_blocks_Both n) (it_blocks_Both n) n c2_blocks_Both rs_blocks_Both ps_blocks_Both (u0, (u1, ())) h := by kernel_rfl
noncomputable def s_blocks_Both (n : Nat) : Sf1 := mkSf ps_blocks_Both rs_blocks_Both fun a h => f_blocks_Both n a.1 a.2.1 h

/- wicket/wicketlaw05.BlocksOne -/
def c2_wicketlaw05_BlocksOne : C2 :=
  .seq (.reg [(⟨(some 5), .box (.tmp 1), none⟩, .ptr),
      (⟨(some 8), .move (.const (.bool false)), none⟩, .bool)]) <|
  .seq (.seq (.reg [(⟨(some 23), .call k_wicketlaw05_awake [], none⟩, .bool),
        (⟨(some 24), .un .not (.tmp 23), none⟩, .bool)]) <|
    .cond (.tmp 24)
      (.seq (.reg [(⟨(some 8), .move (.const (.bool false)), none⟩, .bool)]) <|
      .ret)
      (.skip)) <|
  .seq (.reg [(⟨(some 26), .move (.tmp 0), none⟩, .any),
      (⟨(some 27), .idxArr 2 1 (.tmp 5) (.const (.int .i64 0)), none⟩, .ptr),
      (⟨(some 28), .load false 1 (.tmp 27), none⟩, (.int .i64)),
      (⟨(some 29), .idxArr 2 1 (.tmp 5) (.const (.int .i64 1)), none⟩, .ptr),
      (⟨(some 30), .load false 1 (.tmp 29), none⟩, (.int .i64)),
      (⟨(some 31), .call k_blocks_Form [(.tmp 26), (.tmp 28), (.tmp 30)], none⟩, .any),
      (⟨(some 25), .move (.tmp 31), none⟩, .any),
      (⟨(some 32), .extract (.tmp 25) 0, none⟩, .any),
      (⟨(some 33), .extract (.tmp 25) 1, none⟩, (.int .i64)),
      (⟨(some 9), .move (.tmp 32), none⟩, .any),
      (⟨(some 10), .move (.tmp 33), none⟩, (.int .i64))]) <|
  .seq (.reg [(⟨(some 34), .buildSlice 0 1 [] [], none⟩, .any),
      (⟨(some 35), .move (.tmp 0), none⟩, .any),
      (⟨(some 36), .append 8 1 (.tmp 34) (.tmp 35), none⟩, .any),
      (⟨(some 37), .move (.tmp 0), none⟩, .any),
      (⟨(some 38), .append 8 1 (.tmp 36) (.tmp 37), none⟩, .any),
      (⟨(some 11), .move (.tmp 38), none⟩, .any)]) <|
  .seq (.reg [(⟨(some 39), .move (.tmp 11), none⟩, .any),
      (⟨(some 40), .move (.tmp 11), none⟩, .any),
      (⟨(some 41), .lenS (.tmp 40), none⟩, (.int .i64)),
      (⟨(some 42), .bin .quo (.tmp 41) (.const (.int .i64 2)), none⟩, (.int .i64)),
      (⟨(some 43), .slice 1 (.tmp 39) none (some (.tmp 42)) none, none⟩, .any),
      (⟨(some 44), .call k_wicketlaw05_turn [(.tmp 43)], none⟩, .any)]) <|
  .seq (.cutn [] <|
      .seq (.reg [(⟨(some 12), .move (.const (.int .i64 0)), none⟩, (.int .i64))]) <|
      .block 0 <|
        .loop [(12, (.int .i64))] <|
          .seq (.seq (.reg [(⟨(some 45), .move (.tmp 12), none⟩, (.int .i64)),
                (⟨(some 46), .move (.tmp 0), none⟩, .any),
                (⟨(some 47), .lenS (.tmp 46), none⟩, (.int .i64)),
                (⟨(some 48), .bin .lss (.tmp 45) (.tmp 47), none⟩, .bool)]) <|
            .cond (.tmp 48)
              (.skip)
              (.exit 0)) <|
          .seq (.block 1 <|
              .reg [(⟨(some 51), .move (.tmp 11), none⟩, .any),
                (⟨(some 52), .move (.tmp 0), none⟩, .any),
                (⟨(some 53), .lenS (.tmp 52), none⟩, (.int .i64)),
                (⟨(some 54), .move (.tmp 12), none⟩, (.int .i64)),
                (⟨(some 55), .bin .add (.tmp 53) (.tmp 54), none⟩, (.int .i64)),
                (⟨(some 56), .move (.tmp 0), none⟩, .any),
                (⟨(some 57), .move (.tmp 12), none⟩, (.int .i64)),
                (⟨(some 58), .idxSlice 1 (.tmp 56) (.tmp 57), none⟩, .ptr),
                (⟨(some 59), .load false 1 (.tmp 58), none⟩, (.int .i64)),
                (⟨(some 60), .idxSlice 1 (.tmp 51) (.tmp 55), none⟩, .ptr),
                (⟨none, .store 1 (.tmp 60) (.tmp 59), none⟩, .any)]) <|
          .reg [(⟨(some 49), .move (.tmp 12), none⟩, (.int .i64)),
            (⟨(some 50), .bin .add (.tmp 49) (.const (.int .i64 1)), none⟩, (.int .i64)),
            (⟨(some 12), .move (.tmp 50), none⟩, (.int .i64))]) <|
  .seq (.reg [(⟨(some 62), .move (.tmp 11), none⟩, .any),
      (⟨(some 63), .idxArr 2 1 (.tmp 5) (.const (.int .i64 0)), none⟩, .ptr),
      (⟨(some 64), .load false 1 (.tmp 63), none⟩, (.int .i64)),
      (⟨(some 65), .idxArr 2 1 (.tmp 5) (.const (.int .i64 1)), none⟩, .ptr),
      (⟨(some 66), .load false 1 (.tmp 65), none⟩, (.int .i64)),
      (⟨(some 67), .call k_blocks_Form [(.tmp 62), (.tmp 64), (.tmp 66)], none⟩, .any),
      (⟨(some 61), .move (.tmp 67), none⟩, .any),
      (⟨(some 68), .extract (.tmp 61) 0, none⟩, .any),
      (⟨(some 69), .extract (.tmp 61) 1, none⟩, (.int .i64)),
      (⟨(some 13), .move (.tmp 68), none⟩, .any),
      (⟨(some 14), .move (.tmp 69), none⟩, (.int .i64))]) <|
  .seq (.seq (.cutn [(78, .bool)] <|
        .reg [(⟨(some 70), .move (.tmp 10), none⟩, (.int .i64)),
          (⟨(some 71), .move (.tmp 14), none⟩, (.int .i64)),
          (⟨(some 72), .bin .neq (.tmp 70) (.tmp 71), none⟩, .bool),
          (⟨(some 73), .move (.tmp 72), none⟩, .bool),
          (⟨(some 74), .move (.tmp 9), some (73, false)⟩, .any),
          (⟨(some 75), .move (.tmp 13), some (73, false)⟩, .any),
          (⟨(some 76), .call k_wicketref05_Same [(.tmp 74), (.tmp 75)], some (73, false)⟩, .bool),
          (⟨(some 77), .un .not (.tmp 76), some (73, false)⟩, .bool),
          (⟨(some 78), .pick (.tmp 73) (.const (.bool true)) (.tmp 77), none⟩, .bool)]) <|
    .cond (.tmp 78)
      (.seq (.reg [(⟨(some 8), .move (.const (.bool false)), none⟩, .bool)]) <|
      .ret)
      (.skip)) <|
  .seq (.reg [(⟨(some 79), .move (.tmp 0), none⟩, .any),
      (⟨(some 80), .move (.tmp 2), none⟩, .any),
      (⟨(some 81), .call k_blocks_Both [(.tmp 79), (.tmp 80)], none⟩, .any),
      (⟨(some 15), .move (.tmp 81), none⟩, .any)]) <|
  .seq (.seq (.cutn [(93, .bool)] <|
        .reg [(⟨(some 82), .move (.tmp 15), none⟩, .any),
          (⟨(some 83), .move (.tmp 3), none⟩, (.int .i64)),
          (⟨(some 84), .call k_blocks_Has [(.tmp 82), (.tmp 83)], none⟩, .bool),
          (⟨(some 85), .move (.tmp 0), none⟩, .any),
          (⟨(some 86), .move (.tmp 3), none⟩, (.int .i64)),
          (⟨(some 87), .call k_blocks_Has [(.tmp 85), (.tmp 86)], none⟩, .bool),
          (⟨(some 88), .move (.tmp 87), none⟩, .bool),
          (⟨(some 89), .move (.tmp 2), some (88, true)⟩, .any),
          (⟨(some 90), .move (.tmp 3), some (88, true)⟩, (.int .i64)),
          (⟨(some 91), .call k_blocks_Has [(.tmp 89), (.tmp 90)], some (88, true)⟩, .bool),
          (⟨(some 92), .pick (.tmp 88) (.tmp 91) (.const (.bool false)), none⟩, .bool),
          (⟨(some 93), .eqv true .bool (.tmp 84) (.tmp 92), none⟩, .bool)]) <|
    .cond (.tmp 93)
      (.seq (.reg [(⟨(some 8), .move (.const (.bool false)), none⟩, .bool)]) <|
      .ret)
      (.skip)) <|
  .seq (.cut [] <|
      .seq (.reg [(⟨(some 16), .move (.const (.int .i64 1)), none⟩, (.int .i64))]) <|
      .block 2 <|
        .loop [(16, (.int .i64))] <|
          .seq (.seq (.reg [(⟨(some 94), .move (.tmp 16), none⟩, (.int .i64)),
                (⟨(some 95), .move (.tmp 15), none⟩, .any),
                (⟨(some 96), .lenS (.tmp 95), none⟩, (.int .i64)),
                (⟨(some 97), .bin .lss (.tmp 94) (.tmp 96), none⟩, .bool)]) <|
            .cond (.tmp 97)
              (.skip)
              (.exit 2)) <|
          .seq (.block 3 <|
              .seq (.regd [(⟨0, [], false, ⟨(some 100), .move (.tmp 15), none⟩⟩, .any),
                  (⟨1, [], false, ⟨(some 101), .move (.tmp 16), none⟩⟩, (.int .i64)),
                  (⟨2, [1], false, ⟨(some 102), .bin .sub (.tmp 101) (.const (.int .i64 1)), none⟩⟩, (.int .i64)),
                  (⟨3, [0, 2, 1], false, ⟨(some 103), .idxSlice 1 (.tmp 100) (.tmp 102), none⟩⟩, .ptr),
                  (⟨4, [3, 0, 2, 1], false, ⟨(some 104), .load false 1 (.tmp 103), none⟩⟩, (.int .i64)),
                  (⟨5, [], false, ⟨(some 105), .move (.tmp 15), none⟩⟩, .any),
                  (⟨6, [], false, ⟨(some 106), .move (.tmp 16), none⟩⟩, (.int .i64)),
                  (⟨7, [5, 6], false, ⟨(some 107), .idxSlice 1 (.tmp 105) (.tmp 106), none⟩⟩, .ptr),
                  (⟨8, [7, 5, 6], false, ⟨(some 108), .load false 1 (.tmp 107), none⟩⟩, (.int .i64)),
                  (⟨9, [4, 8, 3, 0, 2, 1, 7, 5, 6], false, ⟨(some 109), .bin .geq (.tmp 104) (.tmp 108), none⟩⟩, .bool)]) <|
              .cond (.tmp 109)
                (.seq (.reg [(⟨(some 8), .move (.const (.bool false)), none⟩, .bool)]) <|
                .ret)
                (.skip)) <|
          .reg [(⟨(some 98), .move (.tmp 16), none⟩, (.int .i64)),
            (⟨(some 99), .bin .add (.tmp 98) (.const (.int .i64 1)), none⟩, (.int .i64)),
            (⟨(some 16), .move (.tmp 99), none⟩, (.int .i64))]) <|
  .seq (.seq (.reg [(⟨(some 110), .move (.tmp 10), none⟩, (.int .i64)),
        (⟨(some 111), .bin .neq (.tmp 110) (.const (.int .i64 0)), none⟩, .bool)]) <|
    .cond (.tmp 111)
      (.seq (.reg [(⟨(some 112), .move (.tmp 9), none⟩, .any),
          (⟨(some 113), .lenS (.tmp 112), none⟩, (.int .i64)),
          (⟨(some 114), .bin .eql (.tmp 113) (.const (.int .i64 0)), none⟩, .bool),
          (⟨(some 115), .move (.tmp 114), none⟩, .bool),
          (⟨(some 116), .move (.tmp 10), some (115, true)⟩, (.int .i64)),
          (⟨(some 117), .bin .eql (.tmp 116) (.const (.int .i64 2)), some (115, true)⟩, .bool),
          (⟨(some 118), .move (.tmp 117), some (115, true)⟩, .bool),
          (⟨(some 119), .move (.tmp 10), some (118, false)⟩, (.int .i64)),
          (⟨(some 120), .bin .eql (.tmp 119) (.const (.int .i64 50)), some (118, false)⟩, .bool),
          (⟨(some 121), .pick (.tmp 118) (.const (.bool true)) (.tmp 120), some (115, true)⟩, .bool),
          (⟨(some 122), .move (.tmp 121), some (115, true)⟩, .bool),
          (⟨(some 123), .move (.tmp 10), some (122, false)⟩, (.int .i64)),
          (⟨(some 124), .bin .eql (.tmp 123) (.const (.int .i64 51)), some (122, false)⟩, .bool),
          (⟨(some 125), .pick (.tmp 122) (.const (.bool true)) (.tmp 124), some (115, true)⟩, .bool),
          (⟨(some 126), .move (.tmp 125), some (115, true)⟩, .bool),
          (⟨(some 127), .move (.tmp 10), some (126, false)⟩, (.int .i64)),
          (⟨(some 128), .bin .eql (.tmp 127) (.const (.int .i64 52)), some (126, false)⟩, .bool),
          (⟨(some 129), .pick (.tmp 126) (.const (.bool true)) (.tmp 128), some (115, true)⟩, .bool),
          (⟨(some 130), .pick (.tmp 115) (.tmp 129) (.const (.bool false)), none⟩, .bool),
          (⟨(some 8), .move (.tmp 130), none⟩, .bool)]) <|
      .ret)
      (.skip)) <|
  .seq (.reg [(⟨(some 132), .move (.tmp 9), none⟩, .any),
      (⟨(some 133), .idxArr 2 1 (.tmp 5) (.const (.int .i64 0)), none⟩, .ptr),
      (⟨(some 134), .load false 1 (.tmp 133), none⟩, (.int .i64)),
      (⟨(some 135), .idxArr 2 1 (.tmp 5) (.const (.int .i64 1)), none⟩, .ptr),
      (⟨(some 136), .load false 1 (.tmp 135), none⟩, (.int .i64)),
      (⟨(some 137), .call k_blocks_Form [(.tmp 132), (.tmp 134), (.tmp 136)], none⟩, .any),
      (⟨(some 131), .move (.tmp 137), none⟩, .any),
      (⟨(some 138), .extract (.tmp 131) 0, none⟩, .any),
      (⟨(some 139), .extract (.tmp 131) 1, none⟩, (.int .i64)),
      (⟨(some 17), .move (.tmp 138), none⟩, .any),
      (⟨(some 18), .move (.tmp 139), none⟩, (.int .i64))]) <|
  .seq (.seq (.cutn [(168, .bool)] <|
        .reg [(⟨(some 140), .move (.tmp 18), none⟩, (.int .i64)),
          (⟨(some 141), .bin .neq (.tmp 140) (.const (.int .i64 0)), none⟩, .bool),
          (⟨(some 142), .move (.tmp 141), none⟩, .bool),
          (⟨(some 143), .move (.tmp 17), some (142, false)⟩, .any),
          (⟨(some 144), .move (.tmp 9), some (142, false)⟩, .any),
          (⟨(some 145), .call k_wicketref05_Same [(.tmp 143), (.tmp 144)], some (142, false)⟩, .bool),
          (⟨(some 146), .un .not (.tmp 145), some (142, false)⟩, .bool),
          (⟨(some 147), .pick (.tmp 142) (.const (.bool true)) (.tmp 146), none⟩, .bool),
          (⟨(some 148), .move (.tmp 147), none⟩, .bool),
          (⟨(some 149), .move (.tmp 9), some (148, false)⟩, .any),
          (⟨(some 150), .call k_blocks_Is [(.tmp 149)], some (148, false)⟩, .bool),
          (⟨(some 151), .un .not (.tmp 150), some (148, false)⟩, .bool),
          (⟨(some 152), .pick (.tmp 148) (.const (.bool true)) (.tmp 151), none⟩, .bool),
          (⟨(some 153), .move (.tmp 152), none⟩, .bool),
          (⟨(some 154), .move (.tmp 9), some (153, false)⟩, .any),
          (⟨(some 155), .lenS (.tmp 154), some (153, false)⟩, (.int .i64)),
          (⟨(some 156), .idxArr 2 1 (.tmp 5) (.const (.int .i64 1)), some (153, false)⟩, .ptr),
          (⟨(some 157), .load false 1 (.tmp 156), some (153, false)⟩, (.int .i64)),
          (⟨(some 158), .bin .gtr (.tmp 155) (.tmp 157), some (153, false)⟩, .bool),
          (⟨(some 159), .pick (.tmp 153) (.const (.bool true)) (.tmp 158), none⟩, .bool),
          (⟨(some 160), .move (.tmp 159), none⟩, .bool),
          (⟨(some 161), .move (.tmp 9), some (160, false)⟩, .any),
          (⟨(some 162), .move (.tmp 3), some (160, false)⟩, (.int .i64)),
          (⟨(some 163), .call k_blocks_Has [(.tmp 161), (.tmp 162)], some (160, false)⟩, .bool),
          (⟨(some 164), .move (.tmp 0), some (160, false)⟩, .any),
          (⟨(some 165), .move (.tmp 3), some (160, false)⟩, (.int .i64)),
          (⟨(some 166), .call k_blocks_Has [(.tmp 164), (.tmp 165)], some (160, false)⟩, .bool),
          (⟨(some 167), .eqv true .bool (.tmp 163) (.tmp 166), some (160, false)⟩, .bool),
          (⟨(some 168), .pick (.tmp 160) (.const (.bool true)) (.tmp 167), none⟩, .bool)]) <|
    .cond (.tmp 168)
      (.seq (.reg [(⟨(some 8), .move (.const (.bool false)), none⟩, .bool)]) <|
      .ret)
      (.skip)) <|
  .seq (.cut [] <|
      .seq (.reg [(⟨(some 19), .move (.const (.int .i64 0)), none⟩, (.int .i64))]) <|
      .block 4 <|
        .loop [(19, (.int .i64))] <|
          .seq (.seq (.reg [(⟨(some 169), .move (.tmp 19), none⟩, (.int .i64)),
                (⟨(some 170), .move (.tmp 0), none⟩, .any),
                (⟨(some 171), .lenS (.tmp 170), none⟩, (.int .i64)),
                (⟨(some 172), .bin .lss (.tmp 169) (.tmp 171), none⟩, .bool)]) <|
            .cond (.tmp 172)
              (.skip)
              (.exit 4)) <|
          .seq (.block 5 <|
              .seq (.reg [(⟨(some 175), .move (.tmp 9), none⟩, .any),
                  (⟨(some 176), .move (.tmp 0), none⟩, .any),
                  (⟨(some 177), .move (.tmp 19), none⟩, (.int .i64)),
                  (⟨(some 178), .idxSlice 1 (.tmp 176) (.tmp 177), none⟩, .ptr),
                  (⟨(some 179), .load false 1 (.tmp 178), none⟩, (.int .i64)),
                  (⟨(some 180), .call k_blocks_Has [(.tmp 175), (.tmp 179)], none⟩, .bool),
                  (⟨(some 181), .un .not (.tmp 180), none⟩, .bool)]) <|
              .cond (.tmp 181)
                (.seq (.reg [(⟨(some 8), .move (.const (.bool false)), none⟩, .bool)]) <|
                .ret)
                (.skip)) <|
          .reg [(⟨(some 173), .move (.tmp 19), none⟩, (.int .i64)),
            (⟨(some 174), .bin .add (.tmp 173) (.const (.int .i64 1)), none⟩, (.int .i64)),
            (⟨(some 19), .move (.tmp 174), none⟩, (.int .i64))]) <|
  .seq (.seq (.reg [(⟨(some 20), .move (.const (.int .i64 0)), none⟩, (.int .i64))]) <|
    .block 6 <|
      .loop [(20, (.int .i64))] <|
        .seq (.seq (.reg [(⟨(some 182), .move (.tmp 20), none⟩, (.int .i64)),
              (⟨(some 183), .move (.tmp 9), none⟩, .any),
              (⟨(some 184), .lenS (.tmp 183), none⟩, (.int .i64)),
              (⟨(some 185), .bin .leq (.tmp 182) (.tmp 184), none⟩, .bool)]) <|
          .cond (.tmp 185)
            (.skip)
            (.exit 6)) <|
        .seq (.block 7 <|
            .seq (.reg [(⟨(some 189), .move (.tmp 9), none⟩, .any),
                (⟨(some 190), .move (.tmp 20), none⟩, (.int .i64)),
                (⟨(some 191), .call k_blocks_Next [(.tmp 189), (.tmp 190)], none⟩, .any),
                (⟨(some 188), .move (.tmp 191), none⟩, .any),
                (⟨(some 192), .extract (.tmp 188) 0, none⟩, (.int .i64)),
                (⟨(some 193), .extract (.tmp 188) 1, none⟩, .bool),
                (⟨(some 21), .move (.tmp 192), none⟩, (.int .i64)),
                (⟨(some 22), .move (.tmp 193), none⟩, .bool)]) <|
            .seq (.cutn [(216, .bool)] <|
                .reg [(⟨(some 194), .move (.tmp 22), none⟩, .bool),
                  (⟨(some 195), .move (.tmp 20), none⟩, (.int .i64)),
                  (⟨(some 196), .move (.tmp 9), none⟩, .any),
                  (⟨(some 197), .lenS (.tmp 196), none⟩, (.int .i64)),
                  (⟨(some 198), .bin .lss (.tmp 195) (.tmp 197), none⟩, .bool),
                  (⟨(some 199), .eqv true .bool (.tmp 194) (.tmp 198), none⟩, .bool),
                  (⟨(some 200), .move (.tmp 199), none⟩, .bool),
                  (⟨(some 201), .move (.tmp 22), some (200, false)⟩, .bool),
                  (⟨(some 202), .move (.tmp 201), some (200, false)⟩, .bool),
                  (⟨(some 203), .move (.tmp 21), some (202, true)⟩, (.int .i64)),
                  (⟨(some 204), .move (.tmp 9), some (202, true)⟩, .any),
                  (⟨(some 205), .move (.tmp 20), some (202, true)⟩, (.int .i64)),
                  (⟨(some 206), .idxSlice 1 (.tmp 204) (.tmp 205), some (202, true)⟩, .ptr),
                  (⟨(some 207), .load false 1 (.tmp 206), some (202, true)⟩, (.int .i64)),
                  (⟨(some 208), .bin .neq (.tmp 203) (.tmp 207), some (202, true)⟩, .bool),
                  (⟨(some 209), .move (.tmp 208), some (202, true)⟩, .bool),
                  (⟨(some 210), .move (.tmp 0), some (209, false)⟩, .any),
                  (⟨(some 211), .move (.tmp 21), some (209, false)⟩, (.int .i64)),
                  (⟨(some 212), .call k_blocks_Has [(.tmp 210), (.tmp 211)], some (209, false)⟩, .bool),
                  (⟨(some 213), .un .not (.tmp 212), some (209, false)⟩, .bool),
                  (⟨(some 214), .pick (.tmp 209) (.const (.bool true)) (.tmp 213), some (202, true)⟩, .bool),
                  (⟨(some 215), .pick (.tmp 202) (.tmp 214) (.const (.bool false)), some (200, false)⟩, .bool),
                  (⟨(some 216), .pick (.tmp 200) (.const (.bool true)) (.tmp 215), none⟩, .bool)]) <|
            .cond (.tmp 216)
              (.seq (.reg [(⟨(some 8), .move (.const (.bool false)), none⟩, .bool)]) <|
              .ret)
              (.skip)) <|
        .reg [(⟨(some 186), .move (.tmp 20), none⟩, (.int .i64)),
          (⟨(some 187), .bin .add (.tmp 186) (.const (.int .i64 1)), none⟩, (.int .i64)),
          (⟨(some 20), .move (.tmp 187), none⟩, (.int .i64))]) <|
  .seq (.reg [(⟨(some 8), .move (.const (.bool true)), none⟩, .bool)]) <|
  .ret
def f_wicketlaw05_BlocksOne_L22 (n : Nat) (u0 : Value) (p10 : (Value × Heap)) (v14 : Int) (h15 : Heap) : Option (((Int × Unit) × Heap) ⊕ ((Unit) × Heap)) :=
  (lenB u0).bind fun n16 =>
  bif (decide (v14 < (n16 : Int))) then
    ((lenB u0).bind fun n17 =>
    (ixB 1 u0 v14).bind fun q18 =>
    (ldT (.int .i64) h15 (some q18)).bind fun x19 =>
    (ixB 1 p10.1 (IntKind.i64.wrap ((n17 : Int) + v14))).bind fun q20 =>
    (stB 1 (.int .i64 x19) h15 (some q20)).bind fun h21 =>
    some (.inl (((IntKind.i64.wrap (v14 + 1)), ()), h21)))
  else
    (some (.inr ((), h15)))
def f_wicketlaw05_BlocksOne_L44 (n : Nat) (p31 : ((Value × Unit) × Heap)) (v37 : Int) (h38 : Heap) : Option (((Int × Unit) × Heap) ⊕ (((Unit) × Heap) ⊕ ((Bool × Unit) × Heap))) :=
  (lenB p31.1.1).bind fun n39 =>
  bif (decide (v37 < (n39 : Int))) then
    ((ixB 1 p31.1.1 (IntKind.i64.wrap (v37 - 1))).bind fun q40 =>
    (ldT (.int .i64) h38 (some q40)).bind fun x41 =>
    (ixB 1 p31.1.1 v37).bind fun q42 =>
    (ldT (.int .i64) h38 (some q42)).bind fun x43 =>
    bif (decide (x43 ≤ x41)) then
      (some (.inr (.inr ((false, ()), h38))))
    else
      (some (.inl (((IntKind.i64.wrap (v37 + 1)), ()), h38))))
  else
    (some (.inr (.inl ((), h38))))
def f_wicketlaw05_BlocksOne_C45 (n : Nat) (p31 : ((Value × Unit) × Heap)) (h36 : Heap) : Option (((Unit) × Heap) ⊕ ((Bool × Unit) × Heap)) :=
  loopT (fun a => f_wicketlaw05_BlocksOne_L44 n p31 a.1.1 a.2) n ((1, ()), h36)
def f_wicketlaw05_BlocksOne_L68 (n : Nat) (u0 : Value) (p6 : ((Value × Int × Unit) × Heap)) (v62 : Int) (h63 : Heap) : Option (((Int × Unit) × Heap) ⊕ (((Unit) × Heap) ⊕ ((Bool × Unit) × Heap))) :=
  (lenB u0).bind fun n64 =>
  bif (decide (v62 < (n64 : Int))) then
    ((ixB 1 u0 v62).bind fun q65 =>
    (ldT (.int .i64) h63 (some q65)).bind fun x66 =>
    (f_blocks_Has n p6.1.1 x66 h63).bind fun p67 =>
    bif (!p67.1.1) then
      (some (.inr (.inr ((false, ()), p67.2))))
    else
      (some (.inl (((IntKind.i64.wrap (v62 + 1)), ()), p67.2))))
  else
    (some (.inr (.inl ((), h63))))
def f_wicketlaw05_BlocksOne_C69 (n : Nat) (u0 : Value) (p6 : ((Value × Int × Unit) × Heap)) (h61 : Heap) : Option (((Unit) × Heap) ⊕ ((Bool × Unit) × Heap)) :=
  loopT (fun a => f_wicketlaw05_BlocksOne_L68 n u0 p6 a.1.1 a.2) n ((0, ()), h61)
def f_wicketlaw05_BlocksOne_L80 (n : Nat) (u0 : Value) (p6 : ((Value × Int × Unit) × Heap)) (v71 : Int) (h72 : Heap) : Option (((Int × Unit) × Heap) ⊕ ((Bool × Unit) × Heap)) :=
  (lenB p6.1.1).bind fun n73 =>
  bif (decide (v71 ≤ (n73 : Int))) then
    ((f_blocks_Next n p6.1.1 v71 h72).bind fun p74 =>
    (((lenB p6.1.1).bind fun n75 =>
      bif (!(p74.1.2.1 == (decide (v71 < (n75 : Int))))) then
        (some ((true, ()), p74.2))
      else
        (bif p74.1.2.1 then
          ((ixB 1 p6.1.1 v71).bind fun q76 =>
          (ldT (.int .i64) p74.2 (some q76)).bind fun x77 =>
          bif (!decide (p74.1.1 = x77)) then
            (some ((true, ()), p74.2))
          else
            ((f_blocks_Has n u0 p74.1.1 p74.2).bind fun p78 =>
            some (((!p78.1.1), ()), p78.2)))
        else
          (some ((false, ()), p74.2)))) : Option ((Bool × Unit) × Heap)).bind fun a79 =>
    bif a79.1.1 then
      (some (.inr ((false, ()), a79.2)))
    else
      (some (.inl (((IntKind.i64.wrap (v71 + 1)), ()), a79.2))))
  else
    (some (.inr ((true, ()), h72)))
noncomputable def sf_wicketlaw05_BlocksOne (n : Nat) : Sf := sfOf [(k_wicketlaw05_awake, s_wicketlaw05_awake n), (k_blocks_Form, s_blocks_Form n), (k_wicketlaw05_turn, s_wicketlaw05_turn n), (k_wicketref05_Same, s_wicketref05_Same n), (k_blocks_Both, s_blocks_Both n), (k_blocks_Has, s_blocks_Has n), (k_blocks_Is, s_blocks_Is n), (k_blocks_Next, s_blocks_Next n)]
noncomputable def it_wicketlaw05_BlocksOne (n : Nat) : It := itOf []
def f_wicketlaw05_BlocksOne (n : Nat) (u0 : Value) (u1 : Value) (u2 : Value) (u3 : Int) (h : Heap) : Option ((Bool × Unit) × Heap) :=
  bif (cellsOf u1).all isCell then
    (bnd ((Heap.new h (.cells (cellsOf u1) false 0))) fun h0 =>
    (f_wicketlaw05_awake n h0).bind fun p1 =>
    bif (!p1.1.1) then
      (some ((false, ()), p1.2))
    else
      ((ixA 2 1 (some (nwA h)) 0).bind fun q2 =>
      (ldT (.int .i64) p1.2 (some q2)).bind fun x3 =>
      (ixA 2 1 (some (nwA h)) 1).bind fun q4 =>
      (ldT (.int .i64) p1.2 (some q4)).bind fun x5 =>
      (f_blocks_Form n u0 x3 x5 p1.2).bind fun p6 =>
      (fillL [] []).bind fun cs7 =>
      bnd ((Heap.new p6.2 (.cells cs7 false 1))) fun h8 =>
      (appendK h8 8 1 (.slice (some ⟨Heap.next p6.2, 0, some 0⟩) 0 0) u0).bind fun p9 =>
      (appendK p9.2 8 1 p9.1 u0).bind fun p10 =>
      (lenB p10.1).bind fun n11 =>
      (sliceK p10.2 1 none (some (.int .i64 (IntKind.i64.wrap (Int.tdiv (n11 : Int) 2)))) none p10.1).bind fun p12 =>
      (f_wicketlaw05_turn n p12.1 p10.2).bind fun p13 =>
      ((loopT (fun a => f_wicketlaw05_BlocksOne_L22 n u0 p10 a.1.1 a.2) n ((0, ()), p13.2)) : Option ((Unit) × Heap)).bind fun a23 =>
      (ixA 2 1 (some (nwA h)) 0).bind fun q24 =>
      (ldT (.int .i64) a23.2 (some q24)).bind fun x25 =>
      (ixA 2 1 (some (nwA h)) 1).bind fun q26 =>
      (ldT (.int .i64) a23.2 (some q26)).bind fun x27 =>
      (f_blocks_Form n p10.1 x25 x27 a23.2).bind fun p28 =>
      ((bif (!decide (p6.1.2.1 = p28.1.2.1)) then
          (some ((true, ()), p28.2))
        else
          ((f_wicketref05_Same n p6.1.1 p28.1.1 p28.2).bind fun p29 =>
          some (((!p29.1.1), ()), p29.2))) : Option ((Bool × Unit) × Heap)).bind fun a30 =>
      bif a30.1.1 then
        (some ((false, ()), a30.2))
      else
        ((f_blocks_Both n u0 u2 a30.2).bind fun p31 =>
        (((f_blocks_Has n p31.1.1 u3 p31.2).bind fun p32 =>
          (f_blocks_Has n u0 u3 p32.2).bind fun p33 =>
          bif p33.1.1 then
            ((f_blocks_Has n u2 u3 p33.2).bind fun p34 =>
            some (((!(p32.1.1 == p34.1.1)), ()), p34.2))
          else
            (some (((!(p32.1.1 == false)), ()), p33.2))) : Option ((Bool × Unit) × Heap)).bind fun a35 =>
        bif a35.1.1 then
          (some ((false, ()), a35.2))
        else
          (thenB (f_wicketlaw05_BlocksOne_C45 n p31 (a35.2)) fun a46 =>
          bif (!decide (p6.1.2.1 = 0)) then
            ((lenB p6.1.1).bind fun n47 =>
            bif (decide ((n47 : Int) = 0)) then
              (bif (decide (p6.1.2.1 = 2)) then
                (some ((true, ()), a46.2))
              else
                (bif (decide (p6.1.2.1 = 50)) then
                  (some ((true, ()), a46.2))
                else
                  (bif (decide (p6.1.2.1 = 51)) then
                    (some ((true, ()), a46.2))
                  else
                    (some (((decide (p6.1.2.1 = 52)), ()), a46.2)))))
            else
              (some ((false, ()), a46.2)))
          else
            ((ixA 2 1 (some (nwA h)) 0).bind fun q48 =>
            (ldT (.int .i64) a46.2 (some q48)).bind fun x49 =>
            (ixA 2 1 (some (nwA h)) 1).bind fun q50 =>
            (ldT (.int .i64) a46.2 (some q50)).bind fun x51 =>
            (f_blocks_Form n p6.1.1 x49 x51 a46.2).bind fun p52 =>
            ((bif (!decide (p52.1.2.1 = 0)) then
                (some ((true, ()), p52.2))
              else
                ((f_wicketref05_Same n p52.1.1 p6.1.1 p52.2).bind fun p53 =>
                bif (!p53.1.1) then
                  (some ((true, ()), p53.2))
                else
                  ((f_blocks_Is n p6.1.1 p53.2).bind fun p54 =>
                  bif (!p54.1.1) then
                    (some ((true, ()), p54.2))
                  else
                    ((lenB p6.1.1).bind fun n55 =>
                    (ixA 2 1 (some (nwA h)) 1).bind fun q56 =>
                    (ldT (.int .i64) p54.2 (some q56)).bind fun x57 =>
                    bif (decide (x57 < (n55 : Int))) then
                      (some ((true, ()), p54.2))
                    else
                      ((f_blocks_Has n p6.1.1 u3 p54.2).bind fun p58 =>
                      (f_blocks_Has n u0 u3 p58.2).bind fun p59 =>
                      some (((!(p58.1.1 == p59.1.1)), ()), p59.2)))))) : Option ((Bool × Unit) × Heap)).bind fun a60 =>
            bif a60.1.1 then
              (some ((false, ()), a60.2))
            else
              (thenB (f_wicketlaw05_BlocksOne_C69 n u0 p6 (a60.2)) fun a70 =>
              loopT (fun a => f_wicketlaw05_BlocksOne_L80 n u0 p6 a.1.1 a.2) n ((0, ()), a70.2)))))))
  else
    (none)
def rs_wicketlaw05_BlocksOne : Rs := [(.tmp 8, .bool)]
def ps_wicketlaw05_BlocksOne : List Ty := [.any, .any, .any, (.int .i64)]
theorem e_wicketlaw05_BlocksOne (n : Nat) (u0 : Value) (u1 : Value) (u2 : Value) (u3 : Int) (h : Heap) : f_wicketlaw05_BlocksOne n u0 u1 u2 u3 h = fB (sf_wicketlaw05_BlocksOne n) (it_wicketlaw05_BlocksOne n) n c2_wicketlaw05_BlocksOne rs_wicketlaw05_BlocksOne ps_wicketlaw05_BlocksOne (u0, (u1, (u2, (u3, ())))) h := by kernel_rfl
noncomputable def s_wicketlaw05_BlocksOne (n : Nat) : Sf1 := mkSf ps_wicketlaw05_BlocksOne rs_wicketlaw05_BlocksOne fun a h => f_wicketlaw05_BlocksOne n a.1 a.2.1 a.2.2.1 a.2.2.2.1 h

/-- The table holds these. -/
structure LfT (T : Nat → Option AFun) : Prop where
  t_wicketlaw05_awake : PrimT_wicketlaw05_awake T
  t_slices_Sort_int_int : PrimT_slices_Sort_int_int T
  t_wicketlaw05_turn : T k_wicketlaw05_turn = some ⟨List.map (·.1) rs_wicketlaw05_turn, C2.erase c2_wicketlaw05_turn, none⟩
  t_wicketref05_Same : T k_wicketref05_Same = some ⟨List.map (·.1) rs_wicketref05_Same, C2.erase c2_wicketref05_Same, none⟩
  t_blocks_Is : T k_blocks_Is = some ⟨List.map (·.1) rs_blocks_Is, C2.erase c2_blocks_Is, none⟩
  t_blocks_Next : T k_blocks_Next = some ⟨List.map (·.1) rs_blocks_Next, C2.erase c2_blocks_Next, none⟩
  t_slices_Clone_int_int : T k_slices_Clone_int_int = some ⟨List.map (·.1) rs_slices_Clone_int_int, C2.erase c2_slices_Clone_int_int, none⟩
  t_slices_Clip_int_int : T k_slices_Clip_int_int = some ⟨List.map (·.1) rs_slices_Clip_int_int, C2.erase c2_slices_Clip_int_int, none⟩
  t_slices_Compact_int_int : T k_slices_Compact_int_int = some ⟨List.map (·.1) rs_slices_Compact_int_int, C2.erase c2_slices_Compact_int_int, none⟩
  t_slices_Index_int_int : T k_slices_Index_int_int = some ⟨List.map (·.1) rs_slices_Index_int_int, C2.erase c2_slices_Index_int_int, none⟩
  t_blocks_rising : T k_blocks_rising = some ⟨List.map (·.1) rs_blocks_rising, C2.erase c2_blocks_rising, none⟩
  t_slices_Contains_int_int : T k_slices_Contains_int_int = some ⟨List.map (·.1) rs_slices_Contains_int_int, C2.erase c2_slices_Contains_int_int, none⟩
  t_blocks_Form : T k_blocks_Form = some ⟨List.map (·.1) rs_blocks_Form, C2.erase c2_blocks_Form, none⟩
  t_blocks_Has : T k_blocks_Has = some ⟨List.map (·.1) rs_blocks_Has, C2.erase c2_blocks_Has, none⟩
  t_blocks_Both_1 : T k_blocks_Both_1 = some ⟨List.map (·.1) rs_blocks_Both_1, C2.erase c2_blocks_Both_1, none⟩
  t_slices_IndexFunc_int_int : T k_slices_IndexFunc_int_int = some ⟨List.map (·.1) rs_slices_IndexFunc_int_int, C2.erase c2_slices_IndexFunc_int_int, none⟩
  t_slices_DeleteFunc_int_int : T k_slices_DeleteFunc_int_int = some ⟨List.map (·.1) rs_slices_DeleteFunc_int_int, C2.erase c2_slices_DeleteFunc_int_int, none⟩
  t_blocks_Both : T k_blocks_Both = some ⟨List.map (·.1) rs_blocks_Both, C2.erase c2_blocks_Both, none⟩
  t_wicketlaw05_BlocksOne : T k_wicketlaw05_BlocksOne = some ⟨List.map (·.1) rs_wicketlaw05_BlocksOne, C2.erase c2_wicketlaw05_BlocksOne, none⟩
variable {T : Nat → Option AFun}
theorem ok_wicketlaw05_awake (hT : LfT T) (n : Nat) : Sf1Ok T k_wicketlaw05_awake (s_wicketlaw05_awake n) := primOk_wicketlaw05_awake hT.t_wicketlaw05_awake n
theorem ok_slices_Sort_int_int (hT : LfT T) (n : Nat) : Sf1Ok T k_slices_Sort_int_int (s_slices_Sort_int_int n) := primOk_slices_Sort_int_int hT.t_slices_Sort_int_int n
theorem ok_wicketlaw05_turn (hT : LfT T) (n : Nat) : Sf1Ok T k_wicketlaw05_turn (s_wicketlaw05_turn n) := mkSf_ok (sf := sf_wicketlaw05_turn n) (it := it_wicketlaw05_turn n) (n := n) hT.t_wicketlaw05_turn sfOk_nil itOk_nil fun a h => e_wicketlaw05_turn n a.1 h
theorem ok_wicketref05_Same (hT : LfT T) (n : Nat) : Sf1Ok T k_wicketref05_Same (s_wicketref05_Same n) := mkSf_ok (sf := sf_wicketref05_Same n) (it := it_wicketref05_Same n) (n := n) hT.t_wicketref05_Same sfOk_nil itOk_nil fun a h => e_wicketref05_Same n a.1 a.2.1 h
theorem ok_blocks_Is (hT : LfT T) (n : Nat) : Sf1Ok T k_blocks_Is (s_blocks_Is n) := mkSf_ok (sf := sf_blocks_Is n) (it := it_blocks_Is n) (n := n) hT.t_blocks_Is sfOk_nil itOk_nil fun a h => e_blocks_Is n a.1 h
theorem ok_blocks_Next (hT : LfT T) (n : Nat) : Sf1Ok T k_blocks_Next (s_blocks_Next n) := mkSf_ok (sf := sf_blocks_Next n) (it := it_blocks_Next n) (n := n) hT.t_blocks_Next sfOk_nil itOk_nil fun a h => e_blocks_Next n a.1 a.2.1 h
theorem ok_slices_Clone_int_int (hT : LfT T) (n : Nat) : Sf1Ok T k_slices_Clone_int_int (s_slices_Clone_int_int n) := mkSf_ok (sf := sf_slices_Clone_int_int n) (it := it_slices_Clone_int_int n) (n := n) hT.t_slices_Clone_int_int sfOk_nil itOk_nil fun a h => e_slices_Clone_int_int n a.1 h
theorem ok_slices_Clip_int_int (hT : LfT T) (n : Nat) : Sf1Ok T k_slices_Clip_int_int (s_slices_Clip_int_int n) := mkSf_ok (sf := sf_slices_Clip_int_int n) (it := it_slices_Clip_int_int n) (n := n) hT.t_slices_Clip_int_int sfOk_nil itOk_nil fun a h => e_slices_Clip_int_int n a.1 h
theorem ok_slices_Compact_int_int (hT : LfT T) (n : Nat) : Sf1Ok T k_slices_Compact_int_int (s_slices_Compact_int_int n) := mkSf_ok (sf := sf_slices_Compact_int_int n) (it := it_slices_Compact_int_int n) (n := n) hT.t_slices_Compact_int_int sfOk_nil itOk_nil fun a h => e_slices_Compact_int_int n a.1 h
theorem ok_slices_Index_int_int (hT : LfT T) (n : Nat) : Sf1Ok T k_slices_Index_int_int (s_slices_Index_int_int n) := mkSf_ok (sf := sf_slices_Index_int_int n) (it := it_slices_Index_int_int n) (n := n) hT.t_slices_Index_int_int sfOk_nil itOk_nil fun a h => e_slices_Index_int_int n a.1 a.2.1 h
theorem ok_blocks_rising (hT : LfT T) (n : Nat) : Sf1Ok T k_blocks_rising (s_blocks_rising n) := mkSf_ok (sf := sf_blocks_rising n) (it := it_blocks_rising n) (n := n) hT.t_blocks_rising (sfOk_cons (ok_slices_Clone_int_int hT n) (sfOk_cons (ok_slices_Sort_int_int hT n) (sfOk_cons (ok_slices_Compact_int_int hT n) (sfOk_cons (ok_slices_Clip_int_int hT n) sfOk_nil)))) itOk_nil fun a h => e_blocks_rising n a.1 h
theorem ok_slices_Contains_int_int (hT : LfT T) (n : Nat) : Sf1Ok T k_slices_Contains_int_int (s_slices_Contains_int_int n) := mkSf_ok (sf := sf_slices_Contains_int_int n) (it := it_slices_Contains_int_int n) (n := n) hT.t_slices_Contains_int_int (sfOk_cons (ok_slices_Index_int_int hT n) sfOk_nil) itOk_nil fun a h => e_slices_Contains_int_int n a.1 a.2.1 h
theorem ok_blocks_Form (hT : LfT T) (n : Nat) : Sf1Ok T k_blocks_Form (s_blocks_Form n) := mkSf_ok (sf := sf_blocks_Form n) (it := it_blocks_Form n) (n := n) hT.t_blocks_Form (sfOk_cons (ok_blocks_rising hT n) sfOk_nil) itOk_nil fun a h => e_blocks_Form n a.1 a.2.1 a.2.2.1 h
theorem ok_blocks_Has (hT : LfT T) (n : Nat) : Sf1Ok T k_blocks_Has (s_blocks_Has n) := mkSf_ok (sf := sf_blocks_Has n) (it := it_blocks_Has n) (n := n) hT.t_blocks_Has (sfOk_cons (ok_slices_Contains_int_int hT n) sfOk_nil) itOk_nil fun a h => e_blocks_Has n a.1 a.2.1 h
theorem ok_blocks_Both_1 (hT : LfT T) (n : Nat) : Sf1Ok T k_blocks_Both_1 (s_blocks_Both_1 n) := mkSf_ok (sf := sf_blocks_Both_1 n) (it := it_blocks_Both_1 n) (n := n) hT.t_blocks_Both_1 (sfOk_cons (ok_blocks_Has hT n) sfOk_nil) itOk_nil fun a h => e_blocks_Both_1 n a.1 a.2.1 h
theorem ok_slices_IndexFunc_int_int (hT : LfT T) (n : Nat) : Sf1Ok T k_slices_IndexFunc_int_int (s_slices_IndexFunc_int_int n) := mkSf_ok (sf := sf_slices_IndexFunc_int_int n) (it := it_slices_IndexFunc_int_int n) (n := n) hT.t_slices_IndexFunc_int_int (sfOk_cons (ok_blocks_Both_1 hT n) sfOk_nil) itOk_nil fun a h => e_slices_IndexFunc_int_int n a.1 a.2.1 h
theorem ok_slices_DeleteFunc_int_int (hT : LfT T) (n : Nat) : Sf1Ok T k_slices_DeleteFunc_int_int (s_slices_DeleteFunc_int_int n) := mkSf_ok (sf := sf_slices_DeleteFunc_int_int n) (it := it_slices_DeleteFunc_int_int n) (n := n) hT.t_slices_DeleteFunc_int_int (sfOk_cons (ok_slices_IndexFunc_int_int hT n) (sfOk_cons (ok_blocks_Both_1 hT n) sfOk_nil)) itOk_nil fun a h => e_slices_DeleteFunc_int_int n a.1 a.2.1 h
theorem ok_blocks_Both (hT : LfT T) (n : Nat) : Sf1Ok T k_blocks_Both (s_blocks_Both n) := mkSf_ok (sf := sf_blocks_Both n) (it := it_blocks_Both n) (n := n) hT.t_blocks_Both (sfOk_cons (ok_slices_Clone_int_int hT n) (sfOk_cons (ok_slices_DeleteFunc_int_int hT n) (sfOk_cons (ok_blocks_rising hT n) sfOk_nil))) itOk_nil fun a h => e_blocks_Both n a.1 a.2.1 h
theorem ok_wicketlaw05_BlocksOne (hT : LfT T) (n : Nat) : Sf1Ok T k_wicketlaw05_BlocksOne (s_wicketlaw05_BlocksOne n) := mkSf_ok (sf := sf_wicketlaw05_BlocksOne n) (it := it_wicketlaw05_BlocksOne n) (n := n) hT.t_wicketlaw05_BlocksOne (sfOk_cons (ok_wicketlaw05_awake hT n) (sfOk_cons (ok_blocks_Form hT n) (sfOk_cons (ok_wicketlaw05_turn hT n) (sfOk_cons (ok_wicketref05_Same hT n) (sfOk_cons (ok_blocks_Both hT n) (sfOk_cons (ok_blocks_Has hT n) (sfOk_cons (ok_blocks_Is hT n) (sfOk_cons (ok_blocks_Next hT n) sfOk_nil)))))))) itOk_nil fun a h => e_wicketlaw05_BlocksOne n a.1 a.2.1 a.2.2.1 a.2.2.2.1 h
end Go.Proofs.Ytkfdikcnpaechaa
