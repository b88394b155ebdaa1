/- The functions at hand as plain typed functions, each with the proof that it is what the abstract machine's code does. -/
import Derived.Test.YthfkoanomhnpjaaPSort
import Derived.KernelRfl
namespace Go.Proofs.Ythfkoanomhnpjaa
open Go
set_option linter.unusedVariables false
set_option maxRecDepth 100000
def k_wicketlaw05_awake : Nat := 4
def k_slices_Sort_int_int : Nat := 23
def k_wicketref05_Same : Nat := 8
def k_wicketlaw05_Held : Nat := 9
def k_wicketlaw05_turn : Nat := 10
def k_wicketlaw05_Own : Nat := 11
def k_wicketlaw05_Apart : Nat := 12
def k_wicketref05_Has : Nat := 17
def k_slices_Clone_int_int : Nat := 20
def k_slices_Clip_int_int : Nat := 24
def k_slices_Compact_int_int : Nat := 25
def k_wicketref05_Form : Nat := 5
def k_wicketlaw05_Roomy : Nat := 6
def k_blocks_rising : Nat := 18
def k_blocks_Form : Nat := 7
def k_wicketlaw05_BlocksForms : Nat := 3

def f_wicketlaw05_awake (n : Nat) (h : Heap) : Option ((Bool × Unit) × Heap) := yesB h
noncomputable def s_wicketlaw05_awake (n : Nat) : Sf1 := mkSf [] [(.tmp 0, .bool)] fun a h => f_wicketlaw05_awake n h
def PrimT_wicketlaw05_awake (T : Nat → Option AFun) : Prop := T k_wicketlaw05_awake = some ⟨[], .skip, some yes⟩
theorem primOk_wicketlaw05_awake {T : Nat → Option AFun} (hT : PrimT_wicketlaw05_awake T) (n : Nat) : Sf1Ok T k_wicketlaw05_awake (s_wicketlaw05_awake n) := yes_sf hT

def f_slices_Sort_int_int (n : Nat) (u0 : Value) (h : Heap) : Option (Unit × Heap) := (sortB h u0).map fun h' => ((), h')
noncomputable def s_slices_Sort_int_int (n : Nat) : Sf1 := mkSf [.any] [] fun a h => f_slices_Sort_int_int n a.1 h
def PrimT_slices_Sort_int_int (T : Nat → Option AFun) : Prop := T k_slices_Sort_int_int = some ⟨[], .skip, some sortM⟩
theorem primOk_slices_Sort_int_int {T : Nat → Option AFun} (hT : PrimT_slices_Sort_int_int T) (n : Nat) : Sf1Ok T k_slices_Sort_int_int (s_slices_Sort_int_int n) := sort_sf hT

/- wicket/wicketref05.Same -/
def c2_wicketref05_Same : C2 :=
  .seq (.reg [(⟨(some 4), .move (.const (.bool false)), none⟩, .bool)]) <|
  .seq (.seq (.reg [(⟨(some 6), .move (.tmp 0), none⟩, .any),
        (⟨(some 7), .lenS (.tmp 6), none⟩, (.int .i64)),
        (⟨(some 8), .move (.tmp 1), none⟩, .any),
        (⟨(some 9), .lenS (.tmp 8), none⟩, (.int .i64)),
        (⟨(some 10), .bin .neq (.tmp 7) (.tmp 9), none⟩, .bool)]) <|
    .cond (.tmp 10)
      (.seq (.reg [(⟨(some 4), .move (.const (.bool false)), none⟩, .bool)]) <|
      .ret)
      (.skip)) <|
  .seq (.seq (.reg [(⟨(some 5), .move (.const (.int .i64 0)), none⟩, (.int .i64))]) <|
    .block 0 <|
      .loop [(5, (.int .i64))] <|
        .seq (.seq (.reg [(⟨(some 11), .move (.tmp 5), none⟩, (.int .i64)),
              (⟨(some 12), .move (.tmp 0), none⟩, .any),
              (⟨(some 13), .lenS (.tmp 12), none⟩, (.int .i64)),
              (⟨(some 14), .bin .lss (.tmp 11) (.tmp 13), none⟩, .bool)]) <|
          .cond (.tmp 14)
            (.skip)
            (.exit 0)) <|
        .seq (.block 1 <|
            .seq (.regd [(⟨0, [], false, ⟨(some 17), .move (.tmp 0), none⟩⟩, .any),
                (⟨1, [], false, ⟨(some 18), .move (.tmp 5), none⟩⟩, (.int .i64)),
                (⟨2, [0, 1], false, ⟨(some 19), .idxSlice 1 (.tmp 17) (.tmp 18), none⟩⟩, .ptr),
                (⟨3, [2, 0, 1], false, ⟨(some 20), .load false 1 (.tmp 19), none⟩⟩, (.int .i64)),
                (⟨4, [], false, ⟨(some 21), .move (.tmp 1), none⟩⟩, .any),
                (⟨5, [], false, ⟨(some 22), .move (.tmp 5), none⟩⟩, (.int .i64)),
                (⟨6, [4, 5], false, ⟨(some 23), .idxSlice 1 (.tmp 21) (.tmp 22), none⟩⟩, .ptr),
                (⟨7, [6, 4, 5], false, ⟨(some 24), .load false 1 (.tmp 23), none⟩⟩, (.int .i64)),
                (⟨8, [3, 7, 2, 0, 1, 6, 4, 5], false, ⟨(some 25), .bin .neq (.tmp 20) (.tmp 24), none⟩⟩, .bool)]) <|
            .cond (.tmp 25)
              (.seq (.reg [(⟨(some 4), .move (.const (.bool false)), none⟩, .bool)]) <|
              .ret)
              (.skip)) <|
        .reg [(⟨(some 15), .move (.tmp 5), none⟩, (.int .i64)),
          (⟨(some 16), .bin .add (.tmp 15) (.const (.int .i64 1)), none⟩, (.int .i64)),
          (⟨(some 5), .move (.tmp 16), none⟩, (.int .i64))]) <|
  .seq (.reg [(⟨(some 4), .move (.const (.bool true)), none⟩, .bool)]) <|
  .ret
def f_wicketref05_Same_L9 (n : Nat) (u1 : Value) (u0 : Value) (v2 : Int) (h3 : Heap) : Option (((Int × Unit) × Heap) ⊕ ((Bool × Unit) × Heap)) :=
  (lenB u0).bind fun n4 =>
  bif (decide (v2 < (n4 : Int))) then
    ((ixB 1 u0 v2).bind fun q5 =>
    (ldT (.int .i64) h3 (some q5)).bind fun x6 =>
    (ixB 1 u1 v2).bind fun q7 =>
    (ldT (.int .i64) h3 (some q7)).bind fun x8 =>
    bif (!decide (x6 = x8)) then
      (some (.inr ((false, ()), h3)))
    else
      (some (.inl (((IntKind.i64.wrap (v2 + 1)), ()), h3))))
  else
    (some (.inr ((true, ()), h3)))
noncomputable def sf_wicketref05_Same (n : Nat) : Sf := sfOf []
noncomputable def it_wicketref05_Same (n : Nat) : It := itOf []
def f_wicketref05_Same (n : Nat) (u0 : Value) (u1 : Value) (h : Heap) : Option ((Bool × Unit) × Heap) :=
  (lenB u0).bind fun n0 =>
  (lenB u1).bind fun n1 =>
  bif (!decide ((n0 : Int) = (n1 : Int))) then
    (some ((false, ()), h))
  else
    (loopT (fun a => f_wicketref05_Same_L9 n u1 u0 a.1.1 a.2) n ((0, ()), h))
def rs_wicketref05_Same : Rs := [(.tmp 4, .bool)]
def ps_wicketref05_Same : List Ty := [.any, .any]
theorem e_wicketref05_Same (n : Nat) (u0 : Value) (u1 : Value) (h : Heap) : f_wicketref05_Same n u0 u1 h = fB (sf_wicketref05_Same n) (it_wicketref05_Same n) n c2_wicketref05_Same rs_wicketref05_Same ps_wicketref05_Same (u0, (u1, ())) h := by kernel_rfl
noncomputable def s_wicketref05_Same (n : Nat) : Sf1 := mkSf ps_wicketref05_Same rs_wicketref05_Same fun a h => f_wicketref05_Same n a.1 a.2.1 h

/- wicket/wicketlaw05.Held -/
def c2_wicketlaw05_Held : C2 :=
  .seq (.reg [(⟨(some 4), .move (.const (.bool false)), none⟩, .bool)]) <|
  .seq (.reg [(⟨(some 6), .move (.tmp 0), none⟩, .any),
      (⟨(some 7), .move (.tmp 1), none⟩, .any),
      (⟨(some 8), .lenS (.tmp 7), none⟩, (.int .i64)),
      (⟨(some 9), .bin .add (.tmp 8) (.const (.int .i64 2)), none⟩, (.int .i64)),
      (⟨(some 10), .slice 1 (.tmp 6) none (some (.tmp 9)) none, none⟩, .any),
      (⟨(some 5), .move (.tmp 10), none⟩, .any)]) <|
  .seq (.reg [(⟨(some 11), .move (.tmp 5), none⟩, .any),
      (⟨(some 12), .move (.tmp 1), none⟩, .any),
      (⟨(some 13), .lenS (.tmp 12), none⟩, (.int .i64)),
      (⟨(some 14), .slice 1 (.tmp 11) none (some (.tmp 13)) none, none⟩, .any),
      (⟨(some 15), .move (.tmp 1), none⟩, .any),
      (⟨(some 16), .call k_wicketref05_Same [(.tmp 14), (.tmp 15)], none⟩, .bool),
      (⟨(some 17), .move (.tmp 16), none⟩, .bool),
      (⟨(some 18), .move (.tmp 5), some (17, true)⟩, .any),
      (⟨(some 19), .move (.tmp 1), some (17, true)⟩, .any),
      (⟨(some 20), .lenS (.tmp 19), some (17, true)⟩, (.int .i64)),
      (⟨(some 21), .idxSlice 1 (.tmp 18) (.tmp 20), some (17, true)⟩, .ptr),
      (⟨(some 22), .load false 1 (.tmp 21), some (17, true)⟩, (.int .i64)),
      (⟨(some 23), .bin .eql (.tmp 22) (.const (.int .i64 7777)), some (17, true)⟩, .bool),
      (⟨(some 24), .pick (.tmp 17) (.tmp 23) (.const (.bool false)), none⟩, .bool),
      (⟨(some 25), .move (.tmp 24), none⟩, .bool),
      (⟨(some 26), .move (.tmp 5), some (25, true)⟩, .any),
      (⟨(some 27), .move (.tmp 1), some (25, true)⟩, .any),
      (⟨(some 28), .lenS (.tmp 27), some (25, true)⟩, (.int .i64)),
      (⟨(some 29), .bin .add (.tmp 28) (.const (.int .i64 1)), some (25, true)⟩, (.int .i64)),
      (⟨(some 30), .idxSlice 1 (.tmp 26) (.tmp 29), some (25, true)⟩, .ptr),
      (⟨(some 31), .load false 1 (.tmp 30), some (25, true)⟩, (.int .i64)),
      (⟨(some 32), .bin .eql (.tmp 31) (.const (.int .i64 8888)), some (25, true)⟩, .bool),
      (⟨(some 33), .pick (.tmp 25) (.tmp 32) (.const (.bool false)), none⟩, .bool),
      (⟨(some 4), .move (.tmp 33), none⟩, .bool)]) <|
  .ret
noncomputable def sf_wicketlaw05_Held (n : Nat) : Sf := sfOf [(k_wicketref05_Same, s_wicketref05_Same n)]
noncomputable def it_wicketlaw05_Held (n : Nat) : It := itOf []
def f_wicketlaw05_Held (n : Nat) (u0 : Value) (u1 : Value) (h : Heap) : Option ((Bool × Unit) × Heap) :=
  (lenB u1).bind fun n0 =>
  (sliceK h 1 none (some (.int .i64 (IntKind.i64.wrap ((n0 : Int) + 2)))) none u0).bind fun p1 =>
  (lenB u1).bind fun n2 =>
  (sliceK h 1 none (some (.int .i64 (n2 : Int))) none p1.1).bind fun p3 =>
  (f_wicketref05_Same n p3.1 u1 h).bind fun p4 =>
  bif p4.1.1 then
    ((lenB u1).bind fun n5 =>
    (ixB 1 p1.1 (n5 : Int)).bind fun q6 =>
    (ldT (.int .i64) p4.2 (some q6)).bind fun x7 =>
    bif (decide (x7 = 7777)) then
      ((lenB u1).bind fun n8 =>
      (ixB 1 p1.1 (IntKind.i64.wrap ((n8 : Int) + 1))).bind fun q9 =>
      (ldT (.int .i64) p4.2 (some q9)).bind fun x10 =>
      some (((decide (x10 = 8888)), ()), p4.2))
    else
      (some ((false, ()), p4.2)))
  else
    (some ((false, ()), p4.2))
def rs_wicketlaw05_Held : Rs := [(.tmp 4, .bool)]
def ps_wicketlaw05_Held : List Ty := [.any, .any]
theorem e_wicketlaw05_Held (n : Nat) (u0 : Value) (u1 : Value) (h : Heap) : f_wicketlaw05_Held n u0 u1 h = fB (sf_wicketlaw05_Held n) (it_wicketlaw05_Held n) n c2_wicketlaw05_Held rs_wicketlaw05_Held ps_wicketlaw05_Held (u0, (u1, ())) h := by kernel_rfl
noncomputable def s_wicketlaw05_Held (n : Nat) : Sf1 := mkSf ps_wicketlaw05_Held rs_wicketlaw05_Held fun a h => f_wicketlaw05_Held n a.1 a.2.1 h

/- wicket/wicketlaw05.turn -/
def c2_wicketlaw05_turn : C2 :=
  .seq (.cutn [] <|
      .seq (.reg [(⟨(some 2), .move (.const (.int .i64 0)), none⟩, (.int .i64))]) <|
      .block 0 <|
        .loop [(2, (.int .i64))] <|
          .seq (.seq (.reg [(⟨(some 3), .move (.tmp 2), none⟩, (.int .i64)),
                (⟨(some 4), .move (.tmp 0), none⟩, .any),
                (⟨(some 5), .lenS (.tmp 4), none⟩, (.int .i64)),
                (⟨(some 6), .bin .quo (.tmp 5) (.const (.int .i64 2)), none⟩, (.int .i64)),
                (⟨(some 7), .bin .lss (.tmp 3) (.tmp 6), none⟩, .bool)]) <|
            .cond (.tmp 7)
              (.skip)
              (.exit 0)) <|
          .seq (.block 1 <|
              .regd [(⟨0, [], false, ⟨(some 10), .move (.tmp 0), none⟩⟩, .any),
                (⟨1, [], false, ⟨(some 11), .move (.tmp 2), none⟩⟩, (.int .i64)),
                (⟨2, [], false, ⟨(some 12), .move (.tmp 0), none⟩⟩, .any),
                (⟨3, [], false, ⟨(some 13), .move (.tmp 0), none⟩⟩, .any),
                (⟨4, [3], false, ⟨(some 14), .lenS (.tmp 13), none⟩⟩, (.int .i64)),
                (⟨5, [4, 3], false, ⟨(some 15), .bin .sub (.tmp 14) (.const (.int .i64 1)), none⟩⟩, (.int .i64)),
                (⟨6, [], false, ⟨(some 16), .move (.tmp 2), none⟩⟩, (.int .i64)),
                (⟨7, [5, 6, 4, 3], false, ⟨(some 17), .bin .sub (.tmp 15) (.tmp 16), none⟩⟩, (.int .i64)),
                (⟨8, [], false, ⟨(some 18), .move (.tmp 0), none⟩⟩, .any),
                (⟨9, [], false, ⟨(some 19), .move (.tmp 0), none⟩⟩, .any),
                (⟨10, [9], false, ⟨(some 20), .lenS (.tmp 19), none⟩⟩, (.int .i64)),
                (⟨11, [10, 9], false, ⟨(some 21), .bin .sub (.tmp 20) (.const (.int .i64 1)), none⟩⟩, (.int .i64)),
                (⟨12, [], false, ⟨(some 22), .move (.tmp 2), none⟩⟩, (.int .i64)),
                (⟨13, [11, 12, 10, 9], false, ⟨(some 23), .bin .sub (.tmp 21) (.tmp 22), none⟩⟩, (.int .i64)),
                (⟨14, [8, 13, 11, 12, 10, 9], false, ⟨(some 24), .idxSlice 1 (.tmp 18) (.tmp 23), none⟩⟩, .ptr),
                (⟨15, [14, 8, 13, 11, 12, 10, 9], false, ⟨(some 25), .load false 1 (.tmp 24), none⟩⟩, (.int .i64)),
                (⟨16, [], false, ⟨(some 26), .move (.tmp 0), none⟩⟩, .any),
                (⟨17, [], false, ⟨(some 27), .move (.tmp 2), none⟩⟩, (.int .i64)),
                (⟨18, [16, 17], false, ⟨(some 28), .idxSlice 1 (.tmp 26) (.tmp 27), none⟩⟩, .ptr),
                (⟨19, [18, 16, 17], false, ⟨(some 29), .load false 1 (.tmp 28), none⟩⟩, (.int .i64)),
                (⟨20, [0, 1, 8, 9, 10, 11, 12, 13, 14, 15, 19, 18, 16, 17], false, ⟨(some 30), .idxSlice 1 (.tmp 10) (.tmp 11), none⟩⟩, .ptr),
                (⟨21, [20, 15, 0, 1, 8, 9, 10, 11, 12, 13, 14, 19, 18, 16, 17], true, ⟨none, .store 1 (.tmp 30) (.tmp 25), none⟩⟩, .any),
                (⟨22, [2, 7, 0, 1, 3, 4, 5, 6, 8, 9, 10, 11, 12, 13, 14, 15, 16, 17, 18, 19, 20, 21], false, ⟨(some 31), .idxSlice 1 (.tmp 12) (.tmp 17), none⟩⟩, .ptr),
                (⟨23, [22, 19, 21, 0, 1, 2, 3, 4, 5, 6, 7, 8, 9, 10, 11, 12, 13, 14, 15, 16, 17, 18, 20], true, ⟨none, .store 1 (.tmp 31) (.tmp 29), none⟩⟩, .any)]) <|
          .reg [(⟨(some 8), .move (.tmp 2), none⟩, (.int .i64)),
            (⟨(some 9), .bin .add (.tmp 8) (.const (.int .i64 1)), none⟩, (.int .i64)),
            (⟨(some 2), .move (.tmp 9), none⟩, (.int .i64))]) <|
  .seq (.reg [(⟨(some 32), .move (.tmp 0), none⟩, .any),
      (⟨(some 33), .lenS (.tmp 32), none⟩, (.int .i64)),
      (⟨(some 34), .bin .gtr (.tmp 33) (.const (.int .i64 0)), none⟩, .bool)]) <|
  .cond (.tmp 34)
    (.reg [(⟨(some 35), .move (.tmp 0), none⟩, .any),
      (⟨(some 36), .move (.tmp 0), none⟩, .any),
      (⟨(some 37), .move (.tmp 0), none⟩, .any),
      (⟨(some 38), .lenS (.tmp 37), none⟩, (.int .i64)),
      (⟨(some 39), .bin .sub (.tmp 38) (.const (.int .i64 1)), none⟩, (.int .i64)),
      (⟨(some 40), .idxSlice 1 (.tmp 36) (.tmp 39), none⟩, .ptr),
      (⟨(some 41), .load false 1 (.tmp 40), none⟩, (.int .i64)),
      (⟨(some 42), .idxSlice 1 (.tmp 35) (.const (.int .i64 0)), none⟩, .ptr),
      (⟨none, .store 1 (.tmp 42) (.tmp 41), none⟩, .any)])
    (.skip)
def f_wicketlaw05_turn_L13 (n : Nat) (u0 : Value) (v0 : Int) (h1 : Heap) : Option (((Int × Unit) × Heap) ⊕ ((Unit) × Heap)) :=
  (lenB u0).bind fun n2 =>
  bif (decide (v0 < (IntKind.i64.wrap (Int.tdiv (n2 : Int) 2)))) then
    ((lenB u0).bind fun n3 =>
    (lenB u0).bind fun n4 =>
    (ixB 1 u0 (IntKind.i64.wrap ((IntKind.i64.wrap ((n4 : Int) - 1)) - v0))).bind fun q5 =>
    (ldT (.int .i64) h1 (some q5)).bind fun x6 =>
    (ixB 1 u0 v0).bind fun q7 =>
    (ldT (.int .i64) h1 (some q7)).bind fun x8 =>
    (ixB 1 u0 v0).bind fun q9 =>
    (stB 1 (.int .i64 x6) h1 (some q9)).bind fun h10 =>
    (ixB 1 u0 (IntKind.i64.wrap ((IntKind.i64.wrap ((n3 : Int) - 1)) - v0))).bind fun q11 =>
    (stB 1 (.int .i64 x8) h10 (some q11)).bind fun h12 =>
    some (.inl (((IntKind.i64.wrap (v0 + 1)), ()), h12)))
  else
    (some (.inr ((), h1)))
noncomputable def sf_wicketlaw05_turn (n : Nat) : Sf := sfOf []
noncomputable def it_wicketlaw05_turn (n : Nat) : It := itOf []
def f_wicketlaw05_turn (n : Nat) (u0 : Value) (h : Heap) : Option ((Unit) × Heap) :=
  ((loopT (fun a => f_wicketlaw05_turn_L13 n u0 a.1.1 a.2) n ((0, ()), h)) : Option ((Unit) × Heap)).bind fun a14 =>
  (lenB u0).bind fun n15 =>
  bif (decide (0 < (n15 : Int))) then
    ((lenB u0).bind fun n16 =>
    (ixB 1 u0 (IntKind.i64.wrap ((n16 : Int) - 1))).bind fun q17 =>
    (ldT (.int .i64) a14.2 (some q17)).bind fun x18 =>
    (ixB 1 u0 0).bind fun q19 =>
    (stB 1 (.int .i64 x18) a14.2 (some q19)).bind fun h20 =>
    some ((), h20))
  else
    (some ((), a14.2))
def rs_wicketlaw05_turn : Rs := []
def ps_wicketlaw05_turn : List Ty := [.any]
theorem e_wicketlaw05_turn (n : Nat) (u0 : Value) (h : Heap) : f_wicketlaw05_turn n u0 h = fB (sf_wicketlaw05_turn n) (it_wicketlaw05_turn n) n c2_wicketlaw05_turn rs_wicketlaw05_turn ps_wicketlaw05_turn (u0, ()) h := by kernel_rfl
noncomputable def s_wicketlaw05_turn (n : Nat) : Sf1 := mkSf ps_wicketlaw05_turn rs_wicketlaw05_turn fun a h => f_wicketlaw05_turn n a.1 h

/- wicket/wicketlaw05.Own -/
def c2_wicketlaw05_Own : C2 :=
  .seq (.reg [(⟨(some 2), .move (.const (.slice none 0 0)), none⟩, .any)]) <|
  .seq (.reg [(⟨(some 3), .buildSlice 0 1 [] [], none⟩, .any),
      (⟨(some 4), .move (.tmp 0), none⟩, .any),
      (⟨(some 5), .append 8 1 (.tmp 3) (.tmp 4), none⟩, .any),
      (⟨(some 2), .move (.tmp 5), none⟩, .any)]) <|
  .ret
noncomputable def sf_wicketlaw05_Own (n : Nat) : Sf := sfOf []
noncomputable def it_wicketlaw05_Own (n : Nat) : It := itOf []
def f_wicketlaw05_Own (n : Nat) (u0 : Value) (h : Heap) : Option ((Value × Unit) × Heap) :=
  (fillL [] []).bind fun cs0 =>
  bnd ((Heap.new h (.cells cs0 false 1))) fun h1 =>
  (appendK h1 8 1 (.slice (some ⟨Heap.next h, 0, some 0⟩) 0 0) u0).bind fun p2 =>
  bif !isTuple p2.1 then
    (some ((p2.1, ()), p2.2))
  else
    (none)
def rs_wicketlaw05_Own : Rs := [(.tmp 2, .any)]
def ps_wicketlaw05_Own : List Ty := [.any]
theorem e_wicketlaw05_Own (n : Nat) (u0 : Value) (h : Heap) : f_wicketlaw05_Own n u0 h = fB (sf_wicketlaw05_Own n) (it_wicketlaw05_Own n) n c2_wicketlaw05_Own rs_wicketlaw05_Own ps_wicketlaw05_Own (u0, ()) h := by kernel_rfl
noncomputable def s_wicketlaw05_Own (n : Nat) : Sf1 := mkSf ps_wicketlaw05_Own rs_wicketlaw05_Own fun a h => f_wicketlaw05_Own n a.1 h

/- wicket/wicketlaw05.Apart -/
def c2_wicketlaw05_Apart : C2 :=
  .seq (.reg [(⟨none, .clrS, none⟩, .any)]) <|
  .seq (.reg [(⟨(some 2), .move (.const (.bool false)), none⟩, .bool)]) <|
  .seq (.cutn [] <|
      .seq (.reg [(⟨(some 3), .move (.const (.int .i64 0)), none⟩, (.int .i64))]) <|
      .block 0 <|
        .loop [(3, (.int .i64))] <|
          .seq (.seq (.reg [(⟨(some 14), .move (.tmp 3), none⟩, (.int .i64)),
                (⟨(some 15), .move (.tmp 0), none⟩, .any),
                (⟨(some 16), .lenS (.tmp 15), none⟩, (.int .i64)),
                (⟨(some 17), .bin .lss (.tmp 14) (.tmp 16), none⟩, .bool)]) <|
            .cond (.tmp 17)
              (.skip)
              (.exit 0)) <|
          .seq (.cutn [] <|
              .block 1 <|
                .seq (.reg [(⟨(some 4), .move (.const (.int .i64 0)), none⟩, (.int .i64))]) <|
                .block 2 <|
                  .loop [(4, (.int .i64))] <|
                    .seq (.seq (.reg [(⟨(some 20), .move (.tmp 4), none⟩, (.int .i64)),
                          (⟨(some 21), .move (.tmp 0), none⟩, .any),
                          (⟨(some 22), .move (.tmp 3), none⟩, (.int .i64)),
                          (⟨(some 23), .idxSlice 1 (.tmp 21) (.tmp 22), none⟩, .ptr),
                          (⟨(some 24), .loadS false 1 (.tmp 23), none⟩, .any),
                          (⟨(some 25), .lenS (.tmp 24), none⟩, (.int .i64)),
                          (⟨(some 26), .bin .lss (.tmp 20) (.tmp 25), none⟩, .bool)]) <|
                      .cond (.tmp 26)
                        (.skip)
                        (.exit 2)) <|
                    .seq (.block 3 <|
                        .reg [(⟨(some 29), .move (.tmp 0), none⟩, .any),
                          (⟨(some 30), .move (.tmp 3), none⟩, (.int .i64)),
                          (⟨(some 31), .idxSlice 1 (.tmp 29) (.tmp 30), none⟩, .ptr),
                          (⟨(some 32), .loadS false 1 (.tmp 31), none⟩, .any),
                          (⟨(some 33), .move (.tmp 4), none⟩, (.int .i64)),
                          (⟨(some 34), .move (.tmp 3), none⟩, (.int .i64)),
                          (⟨(some 35), .bin .sub (.const (.int .i64 (-1))) (.tmp 34), none⟩, (.int .i64)),
                          (⟨(some 36), .idxSlice 1 (.tmp 32) (.tmp 33), none⟩, .ptr),
                          (⟨none, .store 1 (.tmp 36) (.tmp 35), none⟩, .any)]) <|
                    .reg [(⟨(some 27), .move (.tmp 4), none⟩, (.int .i64)),
                      (⟨(some 28), .bin .add (.tmp 27) (.const (.int .i64 1)), none⟩, (.int .i64)),
                      (⟨(some 4), .move (.tmp 28), none⟩, (.int .i64))]) <|
          .reg [(⟨(some 18), .move (.tmp 3), none⟩, (.int .i64)),
            (⟨(some 19), .bin .add (.tmp 18) (.const (.int .i64 1)), none⟩, (.int .i64)),
            (⟨(some 3), .move (.tmp 19), none⟩, (.int .i64))]) <|
  .seq (.reg [(⟨(some 5), .move (.const (.slice none 0 0)), none⟩, .any)]) <|
  .seq (.cutn [(5, .any)] <|
      .seq (.reg [(⟨(some 6), .move (.const (.int .i64 0)), none⟩, (.int .i64))]) <|
      .block 4 <|
        .loop [(5, .any), (6, (.int .i64))] <|
          .seq (.seq (.reg [(⟨(some 37), .move (.tmp 6), none⟩, (.int .i64)),
                (⟨(some 38), .move (.tmp 0), none⟩, .any),
                (⟨(some 39), .lenS (.tmp 38), none⟩, (.int .i64)),
                (⟨(some 40), .bin .lss (.tmp 37) (.tmp 39), none⟩, .bool)]) <|
            .cond (.tmp 40)
              (.skip)
              (.exit 4)) <|
          .seq (.cutn [(5, .any)] <|
              .block 5 <|
                .seq (.reg [(⟨(some 43), .move (.tmp 0), none⟩, .any),
                    (⟨(some 44), .move (.tmp 6), none⟩, (.int .i64)),
                    (⟨(some 45), .idxSlice 1 (.tmp 43) (.tmp 44), none⟩, .ptr),
                    (⟨(some 46), .loadS false 1 (.tmp 45), none⟩, .any),
                    (⟨(some 7), .move (.tmp 46), none⟩, .any)]) <|
                .seq (.cutn [(5, .any), (7, .any)] <|
                    .seq (.reg [(⟨(some 8), .move (.const (.int .i64 0)), none⟩, (.int .i64))]) <|
                    .block 6 <|
                      .loop [(5, .any), (7, .any), (8, (.int .i64))] <|
                        .seq (.seq (.reg [(⟨(some 47), .move (.tmp 8), none⟩, (.int .i64)),
                              (⟨(some 48), .bin .lss (.tmp 47) (.const (.int .i64 80)), none⟩, .bool)]) <|
                          .cond (.tmp 48)
                            (.skip)
                            (.exit 6)) <|
                        .seq (.cutn [(5, .any), (7, .any)] <|
                            .block 7 <|
                              .seq (.reg [(⟨(some 51), .move (.tmp 7), none⟩, .any),
                                  (⟨(some 52), .move (.tmp 6), none⟩, (.int .i64)),
                                  (⟨(some 53), .bin .sub (.const (.int .i64 (-1001))) (.tmp 52), none⟩, (.int .i64)),
                                  (⟨(some 54), .buildSlice 1 1 [(.int .i64 0)] [(0, 1, (.tmp 53))], none⟩, .any),
                                  (⟨(some 55), .appendS 8 1 (.tmp 51) (.tmp 54), none⟩, .any),
                                  (⟨(some 7), .move (.tmp 55), none⟩, .any)]) <|
                              .seq (.reg [(⟨(some 56), .move (.tmp 8), none⟩, (.int .i64)),
                                  (⟨(some 57), .bin .lss (.tmp 56) (.const (.int .i64 16)), none⟩, .bool)]) <|
                              .cond (.tmp 57)
                                (.reg [(⟨(some 58), .move (.tmp 5), none⟩, .any),
                                  (⟨(some 59), .move (.tmp 7), none⟩, .any),
                                  (⟨(some 60), .buildSlice 1 1 [(.slice none 0 0)] [(0, 1, (.tmp 59))], none⟩, .any),
                                  (⟨(some 61), .appendS 24 1 (.tmp 58) (.tmp 60), none⟩, .any),
                                  (⟨(some 5), .move (.tmp 61), none⟩, .any)])
                                (.skip)) <|
                        .reg [(⟨(some 49), .move (.tmp 8), none⟩, (.int .i64)),
                          (⟨(some 50), .bin .add (.tmp 49) (.const (.int .i64 1)), none⟩, (.int .i64)),
                          (⟨(some 8), .move (.tmp 50), none⟩, (.int .i64))]) <|
                .reg [(⟨(some 62), .move (.tmp 5), none⟩, .any),
                  (⟨(some 63), .move (.tmp 7), none⟩, .any),
                  (⟨(some 64), .buildSlice 1 1 [(.slice none 0 0)] [(0, 1, (.tmp 63))], none⟩, .any),
                  (⟨(some 65), .appendS 24 1 (.tmp 62) (.tmp 64), none⟩, .any),
                  (⟨(some 5), .move (.tmp 65), none⟩, .any)]) <|
          .reg [(⟨(some 41), .move (.tmp 6), none⟩, (.int .i64)),
            (⟨(some 42), .bin .add (.tmp 41) (.const (.int .i64 1)), none⟩, (.int .i64)),
            (⟨(some 6), .move (.tmp 42), none⟩, (.int .i64))]) <|
  .seq (.seq (.reg [(⟨(some 9), .move (.const (.int .i64 0)), none⟩, (.int .i64))]) <|
    .block 8 <|
      .loop [(9, (.int .i64))] <|
        .seq (.seq (.reg [(⟨(some 66), .move (.tmp 9), none⟩, (.int .i64)),
              (⟨(some 67), .move (.tmp 0), none⟩, .any),
              (⟨(some 68), .lenS (.tmp 67), none⟩, (.int .i64)),
              (⟨(some 69), .bin .lss (.tmp 66) (.tmp 68), none⟩, .bool)]) <|
          .cond (.tmp 69)
            (.skip)
            (.exit 8)) <|
        .seq (.cut [] <|
            .block 9 <|
              .seq (.cut [] <|
                  .seq (.reg [(⟨(some 10), .move (.const (.int .i64 0)), none⟩, (.int .i64))]) <|
                  .block 10 <|
                    .loop [(10, (.int .i64))] <|
                      .seq (.seq (.reg [(⟨(some 72), .move (.tmp 10), none⟩, (.int .i64)),
                            (⟨(some 73), .move (.tmp 0), none⟩, .any),
                            (⟨(some 74), .move (.tmp 9), none⟩, (.int .i64)),
                            (⟨(some 75), .idxSlice 1 (.tmp 73) (.tmp 74), none⟩, .ptr),
                            (⟨(some 76), .loadS false 1 (.tmp 75), none⟩, .any),
                            (⟨(some 77), .lenS (.tmp 76), none⟩, (.int .i64)),
                            (⟨(some 78), .bin .lss (.tmp 72) (.tmp 77), none⟩, .bool)]) <|
                        .cond (.tmp 78)
                          (.skip)
                          (.exit 10)) <|
                      .seq (.block 11 <|
                          .seq (.reg [(⟨(some 81), .move (.tmp 0), none⟩, .any),
                              (⟨(some 82), .move (.tmp 9), none⟩, (.int .i64)),
                              (⟨(some 83), .idxSlice 1 (.tmp 81) (.tmp 82), none⟩, .ptr),
                              (⟨(some 84), .loadS false 1 (.tmp 83), none⟩, .any),
                              (⟨(some 85), .move (.tmp 10), none⟩, (.int .i64)),
                              (⟨(some 86), .idxSlice 1 (.tmp 84) (.tmp 85), none⟩, .ptr),
                              (⟨(some 87), .loadS false 1 (.tmp 86), none⟩, (.int .i64)),
                              (⟨(some 88), .move (.tmp 9), none⟩, (.int .i64)),
                              (⟨(some 89), .bin .sub (.const (.int .i64 (-1))) (.tmp 88), none⟩, (.int .i64)),
                              (⟨(some 90), .bin .neq (.tmp 87) (.tmp 89), none⟩, .bool)]) <|
                          .cond (.tmp 90)
                            (.seq (.reg [(⟨(some 2), .move (.const (.bool false)), none⟩, .bool)]) <|
                            .ret)
                            (.skip)) <|
                      .reg [(⟨(some 79), .move (.tmp 10), none⟩, (.int .i64)),
                        (⟨(some 80), .bin .add (.tmp 79) (.const (.int .i64 1)), none⟩, (.int .i64)),
                        (⟨(some 10), .move (.tmp 80), none⟩, (.int .i64))]) <|
              .seq (.reg [(⟨(some 11), .move (.const (.int .i64 0)), none⟩, (.int .i64))]) <|
              .block 12 <|
                .loop [(11, (.int .i64))] <|
                  .seq (.seq (.reg [(⟨(some 91), .move (.tmp 11), none⟩, (.int .i64)),
                        (⟨(some 92), .bin .lss (.tmp 91) (.const (.int .i64 17)), none⟩, .bool)]) <|
                    .cond (.tmp 92)
                      (.skip)
                      (.exit 12)) <|
                  .seq (.cut [] <|
                      .block 13 <|
                        .seq (.reg [(⟨(some 95), .move (.tmp 5), none⟩, .any),
                            (⟨(some 96), .move (.tmp 9), none⟩, (.int .i64)),
                            (⟨(some 97), .bin .mul (.const (.int .i64 17)) (.tmp 96), none⟩, (.int .i64)),
                            (⟨(some 98), .move (.tmp 11), none⟩, (.int .i64)),
                            (⟨(some 99), .bin .add (.tmp 97) (.tmp 98), none⟩, (.int .i64)),
                            (⟨(some 100), .idxSlice 1 (.tmp 95) (.tmp 99), none⟩, .ptr),
                            (⟨(some 101), .loadS false 1 (.tmp 100), none⟩, .any),
                            (⟨(some 12), .move (.tmp 101), none⟩, .any)]) <|
                        .seq (.reg [(⟨(some 102), .move (.tmp 0), none⟩, .any),
                            (⟨(some 103), .move (.tmp 9), none⟩, (.int .i64)),
                            (⟨(some 104), .idxSlice 1 (.tmp 102) (.tmp 103), none⟩, .ptr),
                            (⟨(some 105), .loadS false 1 (.tmp 104), none⟩, .any),
                            (⟨(some 106), .lenS (.tmp 105), none⟩, (.int .i64)),
                            (⟨(some 13), .move (.tmp 106), none⟩, (.int .i64))]) <|
                        .block 14 <|
                          .loop [(13, (.int .i64))] <|
                            .seq (.seq (.reg [(⟨(some 107), .move (.tmp 13), none⟩, (.int .i64)),
                                  (⟨(some 108), .move (.tmp 12), none⟩, .any),
                                  (⟨(some 109), .lenS (.tmp 108), none⟩, (.int .i64)),
                                  (⟨(some 110), .bin .lss (.tmp 107) (.tmp 109), none⟩, .bool)]) <|
                              .cond (.tmp 110)
                                (.skip)
                                (.exit 14)) <|
                            .seq (.block 15 <|
                                .seq (.reg [(⟨(some 113), .move (.tmp 12), none⟩, .any),
                                    (⟨(some 114), .move (.tmp 13), none⟩, (.int .i64)),
                                    (⟨(some 115), .idxSlice 1 (.tmp 113) (.tmp 114), none⟩, .ptr),
                                    (⟨(some 116), .loadS false 1 (.tmp 115), none⟩, (.int .i64)),
                                    (⟨(some 117), .move (.tmp 9), none⟩, (.int .i64)),
                                    (⟨(some 118), .bin .sub (.const (.int .i64 (-1001))) (.tmp 117), none⟩, (.int .i64)),
                                    (⟨(some 119), .bin .neq (.tmp 116) (.tmp 118), none⟩, .bool)]) <|
                                .cond (.tmp 119)
                                  (.seq (.reg [(⟨(some 2), .move (.const (.bool false)), none⟩, .bool)]) <|
                                  .ret)
                                  (.skip)) <|
                            .reg [(⟨(some 111), .move (.tmp 13), none⟩, (.int .i64)),
                              (⟨(some 112), .bin .add (.tmp 111) (.const (.int .i64 1)), none⟩, (.int .i64)),
                              (⟨(some 13), .move (.tmp 112), none⟩, (.int .i64))]) <|
                  .reg [(⟨(some 93), .move (.tmp 11), none⟩, (.int .i64)),
                    (⟨(some 94), .bin .add (.tmp 93) (.const (.int .i64 1)), none⟩, (.int .i64)),
                    (⟨(some 11), .move (.tmp 94), none⟩, (.int .i64))]) <|
        .reg [(⟨(some 70), .move (.tmp 9), none⟩, (.int .i64)),
          (⟨(some 71), .bin .add (.tmp 70) (.const (.int .i64 1)), none⟩, (.int .i64)),
          (⟨(some 9), .move (.tmp 71), none⟩, (.int .i64))]) <|
  .seq (.reg [(⟨(some 2), .move (.const (.bool true)), none⟩, .bool)]) <|
  .ret
def f_wicketlaw05_Apart_L13 (n : Nat) (u0 : Value) (v1 : Int) (v4 : Int) (h5 : Heap) : Option (((Int × Unit) × Heap) ⊕ ((Unit) × Heap)) :=
  (ixB 1 u0 v1).bind fun q6 =>
  (ldTS .any h5 (some q6)).bind fun x7 =>
  (lenB x7).bind fun n8 =>
  bif (decide (v4 < (n8 : Int))) then
    ((ixB 1 u0 v1).bind fun q9 =>
    (ldTS .any h5 (some q9)).bind fun x10 =>
    (ixB 1 x10 v4).bind fun q11 =>
    (stB 1 (.int .i64 (IntKind.i64.wrap ((-1) - v1))) h5 (some q11)).bind fun h12 =>
    some (.inl (((IntKind.i64.wrap (v4 + 1)), ()), h12)))
  else
    (some (.inr ((), h5)))
def f_wicketlaw05_Apart_L15 (n : Nat) (u0 : Value) (v1 : Int) (h2 : Heap) : Option (((Int × Unit) × Heap) ⊕ ((Unit) × Heap)) :=
  (lenB u0).bind fun n3 =>
  bif (decide (v1 < (n3 : Int))) then
    (((loopT (fun a => f_wicketlaw05_Apart_L13 n u0 v1 a.1.1 a.2) n ((0, ()), h2)) : Option ((Unit) × Heap)).bind fun a14 =>
    some (.inl (((IntKind.i64.wrap (v1 + 1)), ()), a14.2)))
  else
    (some (.inr ((), h2)))
def f_wicketlaw05_Apart_L34 (n : Nat) (v18 : Int) (v23 : Value) (v24 : Value) (v25 : Int) (h26 : Heap) : Option (((Value × Value × Int × Unit) × Heap) ⊕ ((Value × Value × Unit) × Heap)) :=
  bif (decide (v25 < 80)) then
    ((((fillL [(.int .i64 0)] [(0, 1, (.int .i64 (IntKind.i64.wrap ((-1001) - v18))))]).bind fun cs27 =>
      bnd ((Heap.new h26 (.cells cs27 false 1))) fun h28 =>
      (appendSK h28 8 1 v24 (.slice (some ⟨Heap.next h26, 0, some 0⟩) 1 1)).bind fun p29 =>
      bif (decide (v25 < 16)) then
        ((fillL [(.slice none 0 0)] [(0, 1, p29.1)]).bind fun cs30 =>
        bnd ((Heap.new p29.2 (.cells cs30 false 1))) fun h31 =>
        (appendSK h31 24 1 v23 (.slice (some ⟨Heap.next p29.2, 0, some 0⟩) 1 1)).bind fun p32 =>
        some ((p32.1, (p29.1, ())), p32.2))
      else
        (some ((v23, (p29.1, ())), p29.2))) : Option ((Value × Value × Unit) × Heap)).bind fun a33 =>
    some (.inl ((a33.1.1, (a33.1.2.1, ((IntKind.i64.wrap (v25 + 1)), ()))), a33.2)))
  else
    (some (.inr ((v23, (v24, ())), h26)))
def f_wicketlaw05_Apart_L40 (n : Nat) (u0 : Value) (v17 : Value) (v18 : Int) (h19 : Heap) : Option (((Value × Int × Unit) × Heap) ⊕ ((Value × Unit) × Heap)) :=
  (lenB u0).bind fun n20 =>
  bif (decide (v18 < (n20 : Int))) then
    ((((ixB 1 u0 v18).bind fun q21 =>
      (ldTS .any h19 (some q21)).bind fun x22 =>
      ((loopT (fun a => f_wicketlaw05_Apart_L34 n v18 a.1.1 a.1.2.1 a.1.2.2.1 a.2) n ((v17, (x22, (0, ()))), h19)) : Option ((Value × Value × Unit) × Heap)).bind fun a35 =>
      (fillL [(.slice none 0 0)] [(0, 1, a35.1.2.1)]).bind fun cs36 =>
      bnd ((Heap.new a35.2 (.cells cs36 false 1))) fun h37 =>
      (appendSK h37 24 1 a35.1.1 (.slice (some ⟨Heap.next a35.2, 0, some 0⟩) 1 1)).bind fun p38 =>
      some ((p38.1, ()), p38.2)) : Option ((Value × Unit) × Heap)).bind fun a39 =>
    some (.inl ((a39.1.1, ((IntKind.i64.wrap (v18 + 1)), ())), a39.2)))
  else
    (some (.inr ((v17, ()), h19)))
def f_wicketlaw05_Apart_L56 (n : Nat) (u0 : Value) (v42 : Int) (v47 : Int) (h48 : Heap) : Option (((Int × Unit) × Heap) ⊕ (((Unit) × Heap) ⊕ (((Unit) × Heap) ⊕ (((Int × Unit) × Heap) ⊕ ((Bool × Unit) × Heap))))) :=
  (ixB 1 u0 v42).bind fun q49 =>
  (ldTS .any h48 (some q49)).bind fun x50 =>
  (lenB x50).bind fun n51 =>
  bif (decide (v47 < (n51 : Int))) then
    ((ixB 1 u0 v42).bind fun q52 =>
    (ldTS .any h48 (some q52)).bind fun x53 =>
    (ixB 1 x53 v47).bind fun q54 =>
    (ldTS (.int .i64) h48 (some q54)).bind fun x55 =>
    bif (!decide (x55 = (IntKind.i64.wrap ((-1) - v42)))) then
      (some (.inr (.inr (.inr (.inr ((false, ()), h48))))))
    else
      (some (.inl (((IntKind.i64.wrap (v47 + 1)), ()), h48))))
  else
    (some (.inr (.inl ((), h48))))
def f_wicketlaw05_Apart_C57 (n : Nat) (u0 : Value) (v42 : Int) (h46 : Heap) : Option (((Unit) × Heap) ⊕ (((Unit) × Heap) ⊕ (((Int × Unit) × Heap) ⊕ ((Bool × Unit) × Heap)))) :=
  loopT (fun a => f_wicketlaw05_Apart_L56 n u0 v42 a.1.1 a.2) n ((0, ()), h46)
def f_wicketlaw05_Apart_L72 (n : Nat) (v42 : Int) (x63 : Value) (v67 : Int) (h68 : Heap) : Option (((Int × Unit) × Heap) ⊕ (((Unit) × Heap) ⊕ (((Int × Unit) × Heap) ⊕ (((Unit) × Heap) ⊕ (((Int × Unit) × Heap) ⊕ ((Bool × Unit) × Heap)))))) :=
  (lenB x63).bind fun n69 =>
  bif (decide (v67 < (n69 : Int))) then
    ((ixB 1 x63 v67).bind fun q70 =>
    (ldTS (.int .i64) h68 (some q70)).bind fun x71 =>
    bif (!decide (x71 = (IntKind.i64.wrap ((-1001) - v42)))) then
      (some (.inr (.inr (.inr (.inr (.inr ((false, ()), h68)))))))
    else
      (some (.inl (((IntKind.i64.wrap (v67 + 1)), ()), h68))))
  else
    (some (.inr (.inl ((), h68))))
def f_wicketlaw05_Apart_C73 (n : Nat) (u0 : Value) (a41 : ((Value × Unit) × Heap)) (v42 : Int) (v59 : Int) (h61 : Heap) : Option (((Unit) × Heap) ⊕ (((Int × Unit) × Heap) ⊕ (((Unit) × Heap) ⊕ (((Int × Unit) × Heap) ⊕ ((Bool × Unit) × Heap))))) :=
  (ixB 1 a41.1.1 (IntKind.i64.wrap ((IntKind.i64.wrap (17 * v42)) + v59))).bind fun q62 =>
  (ldTS .any h61 (some q62)).bind fun x63 =>
  (ixB 1 u0 v42).bind fun q64 =>
  (ldTS .any h61 (some q64)).bind fun x65 =>
  (lenB x65).bind fun n66 =>
  loopT (fun a => f_wicketlaw05_Apart_L72 n v42 x63 a.1.1 a.2) n (((n66 : Int), ()), h61)
def f_wicketlaw05_Apart_L75 (n : Nat) (u0 : Value) (a41 : ((Value × Unit) × Heap)) (v42 : Int) (v59 : Int) (h60 : Heap) : Option (((Int × Unit) × Heap) ⊕ (((Unit) × Heap) ⊕ (((Int × Unit) × Heap) ⊕ ((Bool × Unit) × Heap)))) :=
  bif (decide (v59 < 17)) then
    (thenB (f_wicketlaw05_Apart_C73 n u0 a41 v42 v59 (h60)) fun a74 =>
    some (.inl (((IntKind.i64.wrap (v59 + 1)), ()), a74.2)))
  else
    (some (.inr (.inl ((), h60))))
def f_wicketlaw05_Apart_C76 (n : Nat) (u0 : Value) (a41 : ((Value × Unit) × Heap)) (v42 : Int) (h45 : Heap) : Option (((Unit) × Heap) ⊕ (((Int × Unit) × Heap) ⊕ ((Bool × Unit) × Heap))) :=
  thenB (f_wicketlaw05_Apart_C57 n u0 v42 (h45)) fun a58 =>
  loopT (fun a => f_wicketlaw05_Apart_L75 n u0 a41 v42 a.1.1 a.2) n ((0, ()), a58.2)
def f_wicketlaw05_Apart_L78 (n : Nat) (u0 : Value) (a41 : ((Value × Unit) × Heap)) (v42 : Int) (h43 : Heap) : Option (((Int × Unit) × Heap) ⊕ ((Bool × Unit) × Heap)) :=
  (lenB u0).bind fun n44 =>
  bif (decide (v42 < (n44 : Int))) then
    (thenB (f_wicketlaw05_Apart_C76 n u0 a41 v42 (h43)) fun a77 =>
    some (.inl (((IntKind.i64.wrap (v42 + 1)), ()), a77.2)))
  else
    (some (.inr ((true, ()), h43)))
noncomputable def sf_wicketlaw05_Apart (n : Nat) : Sf := sfOf []
noncomputable def it_wicketlaw05_Apart (n : Nat) : It := itOf []
def f_wicketlaw05_Apart (n : Nat) (u0 : Value) (h : Heap) : Option ((Bool × Unit) × Heap) :=
  bnd ((clrH h)) fun h0 =>
  ((loopT (fun a => f_wicketlaw05_Apart_L15 n u0 a.1.1 a.2) n ((0, ()), h0)) : Option ((Unit) × Heap)).bind fun a16 =>
  ((loopT (fun a => f_wicketlaw05_Apart_L40 n u0 a.1.1 a.1.2.1 a.2) n (((.slice none 0 0), (0, ())), a16.2)) : Option ((Value × Unit) × Heap)).bind fun a41 =>
  loopT (fun a => f_wicketlaw05_Apart_L78 n u0 a41 a.1.1 a.2) n ((0, ()), a41.2)
def rs_wicketlaw05_Apart : Rs := [(.tmp 2, .bool)]
def ps_wicketlaw05_Apart : List Ty := [.any]
theorem e_wicketlaw05_Apart (n : Nat) (u0 : Value) (h : Heap) : f_wicketlaw05_Apart n u0 h = fB (sf_wicketlaw05_Apart n) (it_wicketlaw05_Apart n) n c2_wicketlaw05_Apart rs_wicketlaw05_Apart ps_wicketlaw05_Apart (u0, ()) h := by kernel_rfl
noncomputable def s_wicketlaw05_Apart (n : Nat) : Sf1 := mkSf ps_wicketlaw05_Apart rs_wicketlaw05_Apart fun a h => f_wicketlaw05_Apart n a.1 h

/- wicket/wicketref05.Has -/
def c2_wicketref05_Has : C2 :=
  .seq (.reg [(⟨(some 4), .move (.const (.bool false)), none⟩, .bool)]) <|
  .seq (.seq (.reg [(⟨(some 5), .move (.const (.int .i64 0)), none⟩, (.int .i64))]) <|
    .block 0 <|
      .loop [(5, (.int .i64))] <|
        .seq (.seq (.reg [(⟨(some 6), .move (.tmp 5), none⟩, (.int .i64)),
              (⟨(some 7), .move (.tmp 0), none⟩, .any),
              (⟨(some 8), .lenS (.tmp 7), none⟩, (.int .i64)),
              (⟨(some 9), .bin .lss (.tmp 6) (.tmp 8), none⟩, .bool)]) <|
          .cond (.tmp 9)
            (.skip)
            (.exit 0)) <|
        .seq (.block 1 <|
            .seq (.reg [(⟨(some 12), .move (.tmp 0), none⟩, .any),
                (⟨(some 13), .move (.tmp 5), none⟩, (.int .i64)),
                (⟨(some 14), .idxSlice 1 (.tmp 12) (.tmp 13), none⟩, .ptr),
                (⟨(some 15), .load false 1 (.tmp 14), none⟩, (.int .i64)),
                (⟨(some 16), .move (.tmp 1), none⟩, (.int .i64)),
                (⟨(some 17), .bin .eql (.tmp 15) (.tmp 16), none⟩, .bool)]) <|
            .cond (.tmp 17)
              (.seq (.reg [(⟨(some 4), .move (.const (.bool true)), none⟩, .bool)]) <|
              .ret)
              (.skip)) <|
        .reg [(⟨(some 10), .move (.tmp 5), none⟩, (.int .i64)),
          (⟨(some 11), .bin .add (.tmp 10) (.const (.int .i64 1)), none⟩, (.int .i64)),
          (⟨(some 5), .move (.tmp 11), none⟩, (.int .i64))]) <|
  .seq (.reg [(⟨(some 4), .move (.const (.bool false)), none⟩, .bool)]) <|
  .ret
def f_wicketref05_Has_L5 (n : Nat) (u1 : Int) (u0 : Value) (v0 : Int) (h1 : Heap) : Option (((Int × Unit) × Heap) ⊕ ((Bool × Unit) × Heap)) :=
  (lenB u0).bind fun n2 =>
  bif (decide (v0 < (n2 : Int))) then
    ((ixB 1 u0 v0).bind fun q3 =>
    (ldT (.int .i64) h1 (some q3)).bind fun x4 =>
    bif (decide (x4 = u1)) then
      (some (.inr ((true, ()), h1)))
    else
      (some (.inl (((IntKind.i64.wrap (v0 + 1)), ()), h1))))
  else
    (some (.inr ((false, ()), h1)))
noncomputable def sf_wicketref05_Has (n : Nat) : Sf := sfOf []
noncomputable def it_wicketref05_Has (n : Nat) : It := itOf []
def f_wicketref05_Has (n : Nat) (u0 : Value) (u1 : Int) (h : Heap) : Option ((Bool × Unit) × Heap) :=
  loopT (fun a => f_wicketref05_Has_L5 n u1 u0 a.1.1 a.2) n ((0, ()), h)
def rs_wicketref05_Has : Rs := [(.tmp 4, .bool)]
def ps_wicketref05_Has : List Ty := [.any, (.int .i64)]
theorem e_wicketref05_Has (n : Nat) (u0 : Value) (u1 : Int) (h : Heap) : f_wicketref05_Has n u0 u1 h = fB (sf_wicketref05_Has n) (it_wicketref05_Has n) n c2_wicketref05_Has rs_wicketref05_Has ps_wicketref05_Has (u0, (u1, ())) h := by kernel_rfl
noncomputable def s_wicketref05_Has (n : Nat) : Sf1 := mkSf ps_wicketref05_Has rs_wicketref05_Has fun a h => f_wicketref05_Has n a.1 a.2.1 h

/- slices.Clone[[]int,int] -/
def c2_slices_Clone_int_int : C2 :=
  .seq (.reg [(⟨(some 2), .move (.const (.slice none 0 0)), none⟩, .any)]) <|
  .seq (.seq (.reg [(⟨(some 3), .move (.tmp 0), none⟩, .any),
        (⟨(some 4), .eqv false .slice (.tmp 3) (.const (.slice none 0 0)), none⟩, .bool)]) <|
    .cond (.tmp 4)
      (.seq (.reg [(⟨(some 2), .move (.const (.slice none 0 0)), none⟩, .any)]) <|
      .ret)
      (.skip)) <|
  .seq (.reg [(⟨(some 5), .buildSlice 0 1 [] [], none⟩, .any),
      (⟨(some 6), .move (.tmp 0), none⟩, .any),
      (⟨(some 7), .append 8 1 (.tmp 5) (.tmp 6), none⟩, .any),
      (⟨(some 2), .move (.tmp 7), none⟩, .any)]) <|
  .ret
noncomputable def sf_slices_Clone_int_int (n : Nat) : Sf := sfOf []
noncomputable def it_slices_Clone_int_int (n : Nat) : It := itOf []
def f_slices_Clone_int_int (n : Nat) (u0 : Value) (h : Heap) : Option ((Value × Unit) × Heap) :=
  (eqVals h .slice u0 (.slice none 0 0)).bind fun b0 =>
  bif b0 then
    (some (((.slice none 0 0), ()), h))
  else
    ((fillL [] []).bind fun cs1 =>
    bnd ((Heap.new h (.cells cs1 false 1))) fun h2 =>
    (appendK h2 8 1 (.slice (some ⟨Heap.next h, 0, some 0⟩) 0 0) u0).bind fun p3 =>
    bif !isTuple p3.1 then
      (some ((p3.1, ()), p3.2))
    else
      (none))
def rs_slices_Clone_int_int : Rs := [(.tmp 2, .any)]
def ps_slices_Clone_int_int : List Ty := [.any]
theorem e_slices_Clone_int_int (n : Nat) (u0 : Value) (h : Heap) : f_slices_Clone_int_int n u0 h = fB (sf_slices_Clone_int_int n) (it_slices_Clone_int_int n) n c2_slices_Clone_int_int rs_slices_Clone_int_int ps_slices_Clone_int_int (u0, ()) h := by kernel_rfl
noncomputable def s_slices_Clone_int_int (n : Nat) : Sf1 := mkSf ps_slices_Clone_int_int rs_slices_Clone_int_int fun a h => f_slices_Clone_int_int n a.1 h

/- slices.Clip[[]int,int] -/
def c2_slices_Clip_int_int : C2 :=
  .seq (.reg [(⟨(some 2), .move (.const (.slice none 0 0)), none⟩, .any)]) <|
  .seq (.reg [(⟨(some 3), .move (.tmp 0), none⟩, .any),
      (⟨(some 4), .move (.tmp 0), none⟩, .any),
      (⟨(some 5), .lenS (.tmp 4), none⟩, (.int .i64)),
      (⟨(some 6), .move (.tmp 0), none⟩, .any),
      (⟨(some 7), .lenS (.tmp 6), none⟩, (.int .i64)),
      (⟨(some 8), .slice 1 (.tmp 3) none (some (.tmp 5)) (some (.tmp 7)), none⟩, .any),
      (⟨(some 2), .move (.tmp 8), none⟩, .any)]) <|
  .ret
noncomputable def sf_slices_Clip_int_int (n : Nat) : Sf := sfOf []
noncomputable def it_slices_Clip_int_int (n : Nat) : It := itOf []
def f_slices_Clip_int_int (n : Nat) (u0 : Value) (h : Heap) : Option ((Value × Unit) × Heap) :=
  (lenB u0).bind fun n0 =>
  (lenB u0).bind fun n1 =>
  (sliceK h 1 none (some (.int .i64 (n0 : Int))) (some (.int .i64 (n1 : Int))) u0).bind fun p2 =>
  bif !isTuple p2.1 then
    (some ((p2.1, ()), h))
  else
    (none)
def rs_slices_Clip_int_int : Rs := [(.tmp 2, .any)]
def ps_slices_Clip_int_int : List Ty := [.any]
theorem e_slices_Clip_int_int (n : Nat) (u0 : Value) (h : Heap) : f_slices_Clip_int_int n u0 h = fB (sf_slices_Clip_int_int n) (it_slices_Clip_int_int n) n c2_slices_Clip_int_int rs_slices_Clip_int_int ps_slices_Clip_int_int (u0, ()) h := by kernel_rfl
noncomputable def s_slices_Clip_int_int (n : Nat) : Sf1 := mkSf ps_slices_Clip_int_int rs_slices_Clip_int_int fun a h => f_slices_Clip_int_int n a.1 h

/- slices.Compact[[]int,int] -/
def c2_slices_Compact_int_int : C2 :=
  .seq (.reg [(⟨(some 2), .move (.const (.slice none 0 0)), none⟩, .any)]) <|
  .seq (.seq (.reg [(⟨(some 6), .move (.tmp 0), none⟩, .any),
        (⟨(some 7), .lenS (.tmp 6), none⟩, (.int .i64)),
        (⟨(some 8), .bin .lss (.tmp 7) (.const (.int .i64 2)), none⟩, .bool)]) <|
    .cond (.tmp 8)
      (.seq (.reg [(⟨(some 9), .move (.tmp 0), none⟩, .any),
          (⟨(some 2), .move (.tmp 9), none⟩, .any)]) <|
      .ret)
      (.skip)) <|
  .seq (.seq (.reg [(⟨(some 3), .move (.const (.int .i64 1)), none⟩, (.int .i64))]) <|
    .block 0 <|
      .loop [(3, (.int .i64))] <|
        .seq (.seq (.reg [(⟨(some 10), .move (.tmp 3), none⟩, (.int .i64)),
              (⟨(some 11), .move (.tmp 0), none⟩, .any),
              (⟨(some 12), .lenS (.tmp 11), none⟩, (.int .i64)),
              (⟨(some 13), .bin .lss (.tmp 10) (.tmp 12), none⟩, .bool)]) <|
          .cond (.tmp 13)
            (.skip)
            (.exit 0)) <|
        .seq (.cut [(3, (.int .i64))] <|
            .block 1 <|
              .seq (.regd [(⟨0, [], false, ⟨(some 16), .move (.tmp 0), none⟩⟩, .any),
                  (⟨1, [], false, ⟨(some 17), .move (.tmp 3), none⟩⟩, (.int .i64)),
                  (⟨2, [0, 1], false, ⟨(some 18), .idxSlice 1 (.tmp 16) (.tmp 17), none⟩⟩, .ptr),
                  (⟨3, [2, 0, 1], false, ⟨(some 19), .load false 1 (.tmp 18), none⟩⟩, (.int .i64)),
                  (⟨4, [], false, ⟨(some 20), .move (.tmp 0), none⟩⟩, .any),
                  (⟨5, [], false, ⟨(some 21), .move (.tmp 3), none⟩⟩, (.int .i64)),
                  (⟨6, [5], false, ⟨(some 22), .bin .sub (.tmp 21) (.const (.int .i64 1)), none⟩⟩, (.int .i64)),
                  (⟨7, [4, 6, 5], false, ⟨(some 23), .idxSlice 1 (.tmp 20) (.tmp 22), none⟩⟩, .ptr),
                  (⟨8, [7, 4, 6, 5], false, ⟨(some 24), .load false 1 (.tmp 23), none⟩⟩, (.int .i64)),
                  (⟨9, [3, 8, 2, 0, 1, 7, 4, 6, 5], false, ⟨(some 25), .bin .eql (.tmp 19) (.tmp 24), none⟩⟩, .bool)]) <|
              .cond (.tmp 25)
                (.seq (.reg [(⟨(some 26), .move (.tmp 0), none⟩, .any),
                    (⟨(some 27), .move (.tmp 3), none⟩, (.int .i64)),
                    (⟨(some 28), .slice 1 (.tmp 26) (some (.tmp 27)) none none, none⟩, .any),
                    (⟨(some 4), .move (.tmp 28), none⟩, .any)]) <|
                .seq (.cutn [(3, (.int .i64))] <|
                    .seq (.reg [(⟨(some 5), .move (.const (.int .i64 1)), none⟩, (.int .i64))]) <|
                    .block 2 <|
                      .loop [(3, (.int .i64)), (5, (.int .i64))] <|
                        .seq (.seq (.reg [(⟨(some 29), .move (.tmp 5), none⟩, (.int .i64)),
                              (⟨(some 30), .move (.tmp 4), none⟩, .any),
                              (⟨(some 31), .lenS (.tmp 30), none⟩, (.int .i64)),
                              (⟨(some 32), .bin .lss (.tmp 29) (.tmp 31), none⟩, .bool)]) <|
                          .cond (.tmp 32)
                            (.skip)
                            (.exit 2)) <|
                        .seq (.cutn [(3, (.int .i64))] <|
                            .block 3 <|
                              .seq (.regd [(⟨0, [], false, ⟨(some 35), .move (.tmp 4), none⟩⟩, .any),
                                  (⟨1, [], false, ⟨(some 36), .move (.tmp 5), none⟩⟩, (.int .i64)),
                                  (⟨2, [0, 1], false, ⟨(some 37), .idxSlice 1 (.tmp 35) (.tmp 36), none⟩⟩, .ptr),
                                  (⟨3, [2, 0, 1], false, ⟨(some 38), .load false 1 (.tmp 37), none⟩⟩, (.int .i64)),
                                  (⟨4, [], false, ⟨(some 39), .move (.tmp 4), none⟩⟩, .any),
                                  (⟨5, [], false, ⟨(some 40), .move (.tmp 5), none⟩⟩, (.int .i64)),
                                  (⟨6, [5], false, ⟨(some 41), .bin .sub (.tmp 40) (.const (.int .i64 1)), none⟩⟩, (.int .i64)),
                                  (⟨7, [4, 6, 5], false, ⟨(some 42), .idxSlice 1 (.tmp 39) (.tmp 41), none⟩⟩, .ptr),
                                  (⟨8, [7, 4, 6, 5], false, ⟨(some 43), .load false 1 (.tmp 42), none⟩⟩, (.int .i64)),
                                  (⟨9, [3, 8, 2, 0, 1, 7, 4, 6, 5], false, ⟨(some 44), .bin .neq (.tmp 38) (.tmp 43), none⟩⟩, .bool)]) <|
                              .cond (.tmp 44)
                                (.seq (.reg [(⟨(some 45), .move (.tmp 0), none⟩, .any),
                                    (⟨(some 46), .move (.tmp 3), none⟩, (.int .i64)),
                                    (⟨(some 47), .move (.tmp 4), none⟩, .any),
                                    (⟨(some 48), .move (.tmp 5), none⟩, (.int .i64)),
                                    (⟨(some 49), .idxSlice 1 (.tmp 47) (.tmp 48), none⟩, .ptr),
                                    (⟨(some 50), .load false 1 (.tmp 49), none⟩, (.int .i64)),
                                    (⟨(some 51), .idxSlice 1 (.tmp 45) (.tmp 46), none⟩, .ptr),
                                    (⟨none, .store 1 (.tmp 51) (.tmp 50), none⟩, .any)]) <|
                                .reg [(⟨(some 52), .move (.tmp 3), none⟩, (.int .i64)),
                                  (⟨(some 53), .bin .add (.tmp 52) (.const (.int .i64 1)), none⟩, (.int .i64)),
                                  (⟨(some 3), .move (.tmp 53), none⟩, (.int .i64))])
                                (.skip)) <|
                        .reg [(⟨(some 33), .move (.tmp 5), none⟩, (.int .i64)),
                          (⟨(some 34), .bin .add (.tmp 33) (.const (.int .i64 1)), none⟩, (.int .i64)),
                          (⟨(some 5), .move (.tmp 34), none⟩, (.int .i64))]) <|
                .seq (.reg [(⟨(some 54), .move (.tmp 0), none⟩, .any),
                    (⟨(some 55), .move (.tmp 3), none⟩, (.int .i64)),
                    (⟨(some 56), .slice 1 (.tmp 54) (some (.tmp 55)) none none, none⟩, .any),
                    (⟨none, .clear [(.int .i64 0)] (.tmp 56), none⟩, .any)]) <|
                .seq (.reg [(⟨(some 57), .move (.tmp 0), none⟩, .any),
                    (⟨(some 58), .move (.tmp 3), none⟩, (.int .i64)),
                    (⟨(some 59), .slice 1 (.tmp 57) none (some (.tmp 58)) none, none⟩, .any),
                    (⟨(some 2), .move (.tmp 59), none⟩, .any)]) <|
                .ret)
                (.skip)) <|
        .reg [(⟨(some 14), .move (.tmp 3), none⟩, (.int .i64)),
          (⟨(some 15), .bin .add (.tmp 14) (.const (.int .i64 1)), none⟩, (.int .i64)),
          (⟨(some 3), .move (.tmp 15), none⟩, (.int .i64))]) <|
  .seq (.reg [(⟨(some 60), .move (.tmp 0), none⟩, .any),
      (⟨(some 2), .move (.tmp 60), none⟩, .any)]) <|
  .ret
def f_slices_Compact_int_int_L23 (n : Nat) (u0 : Value) (p9 : (Value × Heap)) (v10 : Int) (v11 : Int) (h12 : Heap) : Option (((Int × Int × Unit) × Heap) ⊕ ((Int × Unit) × Heap)) :=
  (lenB p9.1).bind fun n13 =>
  bif (decide (v11 < (n13 : Int))) then
    ((((ixB 1 p9.1 v11).bind fun q14 =>
      (ldT (.int .i64) h12 (some q14)).bind fun x15 =>
      (ixB 1 p9.1 (IntKind.i64.wrap (v11 - 1))).bind fun q16 =>
      (ldT (.int .i64) h12 (some q16)).bind fun x17 =>
      bif (!decide (x15 = x17)) then
        ((ixB 1 p9.1 v11).bind fun q18 =>
        (ldT (.int .i64) h12 (some q18)).bind fun x19 =>
        (ixB 1 u0 v10).bind fun q20 =>
        (stB 1 (.int .i64 x19) h12 (some q20)).bind fun h21 =>
        some (((IntKind.i64.wrap (v10 + 1)), ()), h21))
      else
        (some ((v10, ()), h12))) : Option ((Int × Unit) × Heap)).bind fun a22 =>
    some (.inl ((a22.1.1, ((IntKind.i64.wrap (v11 + 1)), ())), a22.2)))
  else
    (some (.inr ((v10, ()), h12)))
def f_slices_Compact_int_int_C28 (n : Nat) (u0 : Value) (v1 : Int) (h4 : Heap) : Option (((Int × Unit) × Heap) ⊕ (((Int × Unit) × Heap) ⊕ ((Value × Unit) × Heap))) :=
  (ixB 1 u0 v1).bind fun q5 =>
  (ldT (.int .i64) h4 (some q5)).bind fun x6 =>
  (ixB 1 u0 (IntKind.i64.wrap (v1 - 1))).bind fun q7 =>
  (ldT (.int .i64) h4 (some q7)).bind fun x8 =>
  bif (decide (x6 = x8)) then
    ((sliceK h4 1 (some (.int .i64 v1)) none none u0).bind fun p9 =>
    ((loopT (fun a => f_slices_Compact_int_int_L23 n u0 p9 a.1.1 a.1.2.1 a.2) n ((v1, (1, ())), h4)) : Option ((Int × Unit) × Heap)).bind fun a24 =>
    (sliceK a24.2 1 (some (.int .i64 a24.1.1)) none none u0).bind fun p25 =>
    (clearK a24.2 [(.int .i64 0)] p25.1).bind fun p26 =>
    (sliceK p26.2 1 none (some (.int .i64 a24.1.1)) none u0).bind fun p27 =>
    Option.map Sum.inr (Option.map Sum.inr (bif !isTuple p27.1 then
      (some ((p27.1, ()), p26.2))
    else
      (none))))
  else
    (some (.inl ((v1, ()), h4)))
def f_slices_Compact_int_int_L30 (n : Nat) (u0 : Value) (v1 : Int) (h2 : Heap) : Option (((Int × Unit) × Heap) ⊕ ((Value × Unit) × Heap)) :=
  (lenB u0).bind fun n3 =>
  bif (decide (v1 < (n3 : Int))) then
    (thenB (f_slices_Compact_int_int_C28 n u0 v1 (h2)) fun a29 =>
    some (.inl (((IntKind.i64.wrap (a29.1.1 + 1)), ()), a29.2)))
  else
    (Option.map Sum.inr (bif !isTuple u0 then
      (some ((u0, ()), h2))
    else
      (none)))
noncomputable def sf_slices_Compact_int_int (n : Nat) : Sf := sfOf []
noncomputable def it_slices_Compact_int_int (n : Nat) : It := itOf []
def f_slices_Compact_int_int (n : Nat) (u0 : Value) (h : Heap) : Option ((Value × Unit) × Heap) :=
  (lenB u0).bind fun n0 =>
  bif (decide ((n0 : Int) < 2)) then
    (bif !isTuple u0 then
      (some ((u0, ()), h))
    else
      (none))
  else
    (loopT (fun a => f_slices_Compact_int_int_L30 n u0 a.1.1 a.2) n ((1, ()), h))
def rs_slices_Compact_int_int : Rs := [(.tmp 2, .any)]
def ps_slices_Compact_int_int : List Ty := [.any]
theorem e_slices_Compact_int_int (n : Nat) (u0 : Value) (h : Heap) : f_slices_Compact_int_int n u0 h = fB (sf_slices_Compact_int_int n) (it_slices_Compact_int_int n) n c2_slices_Compact_int_int rs_slices_Compact_int_int ps_slices_Compact_int_int (u0, ()) h := by kernel_rfl
noncomputable def s_slices_Compact_int_int (n : Nat) : Sf1 := mkSf ps_slices_Compact_int_int rs_slices_Compact_int_int fun a h => f_slices_Compact_int_int n a.1 h

/- wicket/wicketref05.Form -/
def c2_wicketref05_Form : C2 :=
  .seq (.reg [(⟨(some 6), .move (.const (.slice none 0 0)), none⟩, .any),
      (⟨(some 7), .move (.const (.int .i64 0)), none⟩, (.int .i64))]) <|
  .seq (.seq (.cutn [(29, .bool)] <|
        .reg [(⟨(some 11), .move (.tmp 1), none⟩, (.int .i64)),
          (⟨(some 12), .bin .lss (.tmp 11) (.const (.int .i64 1)), none⟩, .bool),
          (⟨(some 13), .move (.tmp 12), none⟩, .bool),
          (⟨(some 14), .move (.tmp 1), some (13, false)⟩, (.int .i64)),
          (⟨(some 15), .bin .gtr (.tmp 14) (.const (.int .i64 64)), some (13, false)⟩, .bool),
          (⟨(some 16), .pick (.tmp 13) (.const (.bool true)) (.tmp 15), none⟩, .bool),
          (⟨(some 17), .move (.tmp 16), none⟩, .bool),
          (⟨(some 18), .move (.tmp 2), some (17, false)⟩, (.int .i64)),
          (⟨(some 19), .bin .lss (.tmp 18) (.const (.int .i64 1)), some (17, false)⟩, .bool),
          (⟨(some 20), .pick (.tmp 17) (.const (.bool true)) (.tmp 19), none⟩, .bool),
          (⟨(some 21), .move (.tmp 20), none⟩, .bool),
          (⟨(some 22), .move (.tmp 2), some (21, false)⟩, (.int .i64)),
          (⟨(some 23), .bin .gtr (.tmp 22) (.const (.int .i64 16)), some (21, false)⟩, .bool),
          (⟨(some 24), .pick (.tmp 21) (.const (.bool true)) (.tmp 23), none⟩, .bool),
          (⟨(some 25), .move (.tmp 24), none⟩, .bool),
          (⟨(some 26), .move (.tmp 2), some (25, false)⟩, (.int .i64)),
          (⟨(some 27), .move (.tmp 1), some (25, false)⟩, (.int .i64)),
          (⟨(some 28), .bin .gtr (.tmp 26) (.tmp 27), some (25, false)⟩, .bool),
          (⟨(some 29), .pick (.tmp 25) (.const (.bool true)) (.tmp 28), none⟩, .bool)]) <|
    .cond (.tmp 29)
      (.seq (.reg [(⟨(some 6), .move (.const (.slice none 0 0)), none⟩, .any),
          (⟨(some 7), .move (.const (.int .i64 2)), none⟩, (.int .i64))]) <|
      .ret)
      (.skip)) <|
  .seq (.seq (.reg [(⟨(some 30), .move (.tmp 0), none⟩, .any),
        (⟨(some 31), .lenS (.tmp 30), none⟩, (.int .i64)),
        (⟨(some 32), .bin .eql (.tmp 31) (.const (.int .i64 0)), none⟩, .bool)]) <|
    .cond (.tmp 32)
      (.seq (.reg [(⟨(some 6), .move (.const (.slice none 0 0)), none⟩, .any),
          (⟨(some 7), .move (.const (.int .i64 50)), none⟩, (.int .i64))]) <|
      .ret)
      (.skip)) <|
  .seq (.cut [] <|
      .seq (.reg [(⟨(some 8), .move (.const (.int .i64 0)), none⟩, (.int .i64))]) <|
      .block 0 <|
        .loop [(8, (.int .i64))] <|
          .seq (.seq (.reg [(⟨(some 33), .move (.tmp 8), none⟩, (.int .i64)),
                (⟨(some 34), .move (.tmp 0), none⟩, .any),
                (⟨(some 35), .lenS (.tmp 34), none⟩, (.int .i64)),
                (⟨(some 36), .bin .lss (.tmp 33) (.tmp 35), none⟩, .bool)]) <|
            .cond (.tmp 36)
              (.skip)
              (.exit 0)) <|
          .seq (.block 1 <|
              .seq (.cutn [(51, .bool)] <|
                  .reg [(⟨(some 39), .move (.tmp 0), none⟩, .any),
                    (⟨(some 40), .move (.tmp 8), none⟩, (.int .i64)),
                    (⟨(some 41), .idxSlice 1 (.tmp 39) (.tmp 40), none⟩, .ptr),
                    (⟨(some 42), .load false 1 (.tmp 41), none⟩, (.int .i64)),
                    (⟨(some 43), .bin .lss (.tmp 42) (.const (.int .i64 0)), none⟩, .bool),
                    (⟨(some 44), .move (.tmp 43), none⟩, .bool),
                    (⟨(some 45), .move (.tmp 0), some (44, false)⟩, .any),
                    (⟨(some 46), .move (.tmp 8), some (44, false)⟩, (.int .i64)),
                    (⟨(some 47), .idxSlice 1 (.tmp 45) (.tmp 46), some (44, false)⟩, .ptr),
                    (⟨(some 48), .load false 1 (.tmp 47), some (44, false)⟩, (.int .i64)),
                    (⟨(some 49), .move (.tmp 1), some (44, false)⟩, (.int .i64)),
                    (⟨(some 50), .bin .geq (.tmp 48) (.tmp 49), some (44, false)⟩, .bool),
                    (⟨(some 51), .pick (.tmp 44) (.const (.bool true)) (.tmp 50), none⟩, .bool)]) <|
              .cond (.tmp 51)
                (.seq (.reg [(⟨(some 6), .move (.const (.slice none 0 0)), none⟩, .any),
                    (⟨(some 7), .move (.const (.int .i64 51)), none⟩, (.int .i64))]) <|
                .ret)
                (.skip)) <|
          .reg [(⟨(some 37), .move (.tmp 8), none⟩, (.int .i64)),
            (⟨(some 38), .bin .add (.tmp 37) (.const (.int .i64 1)), none⟩, (.int .i64)),
            (⟨(some 8), .move (.tmp 38), none⟩, (.int .i64))]) <|
  .seq (.reg [(⟨(some 9), .move (.const (.slice none 0 0)), none⟩, .any)]) <|
  .seq (.cutn [(9, .any)] <|
      .seq (.reg [(⟨(some 10), .move (.const (.int .i64 0)), none⟩, (.int .i64))]) <|
      .block 2 <|
        .loop [(9, .any), (10, (.int .i64))] <|
          .seq (.seq (.reg [(⟨(some 52), .move (.tmp 10), none⟩, (.int .i64)),
                (⟨(some 53), .move (.tmp 1), none⟩, (.int .i64)),
                (⟨(some 54), .bin .lss (.tmp 52) (.tmp 53), none⟩, .bool)]) <|
            .cond (.tmp 54)
              (.skip)
              (.exit 2)) <|
          .seq (.cutn [(9, .any)] <|
              .block 3 <|
                .seq (.reg [(⟨(some 57), .move (.tmp 0), none⟩, .any),
                    (⟨(some 58), .move (.tmp 10), none⟩, (.int .i64)),
                    (⟨(some 59), .call k_wicketref05_Has [(.tmp 57), (.tmp 58)], none⟩, .bool)]) <|
                .cond (.tmp 59)
                  (.reg [(⟨(some 60), .move (.tmp 9), none⟩, .any),
                    (⟨(some 61), .move (.tmp 10), none⟩, (.int .i64)),
                    (⟨(some 62), .buildSlice 1 1 [(.int .i64 0)] [(0, 1, (.tmp 61))], none⟩, .any),
                    (⟨(some 63), .append 8 1 (.tmp 60) (.tmp 62), none⟩, .any),
                    (⟨(some 9), .move (.tmp 63), none⟩, .any)])
                  (.skip)) <|
          .reg [(⟨(some 55), .move (.tmp 10), none⟩, (.int .i64)),
            (⟨(some 56), .bin .add (.tmp 55) (.const (.int .i64 1)), none⟩, (.int .i64)),
            (⟨(some 10), .move (.tmp 56), none⟩, (.int .i64))]) <|
  .seq (.seq (.reg [(⟨(some 64), .move (.tmp 9), none⟩, .any),
        (⟨(some 65), .lenS (.tmp 64), none⟩, (.int .i64)),
        (⟨(some 66), .move (.tmp 2), none⟩, (.int .i64)),
        (⟨(some 67), .bin .gtr (.tmp 65) (.tmp 66), none⟩, .bool)]) <|
    .cond (.tmp 67)
      (.seq (.reg [(⟨(some 6), .move (.const (.slice none 0 0)), none⟩, .any),
          (⟨(some 7), .move (.const (.int .i64 52)), none⟩, (.int .i64))]) <|
      .ret)
      (.skip)) <|
  .seq (.reg [(⟨(some 68), .move (.tmp 9), none⟩, .any),
      (⟨(some 6), .move (.tmp 68), none⟩, .any),
      (⟨(some 7), .move (.const (.int .i64 0)), none⟩, (.int .i64))]) <|
  .ret
def f_wicketref05_Form_L11 (n : Nat) (u1 : Int) (u0 : Value) (v3 : Int) (h4 : Heap) : Option (((Int × Unit) × Heap) ⊕ (((Unit) × Heap) ⊕ ((Value × Int × Unit) × Heap))) :=
  (lenB u0).bind fun n5 =>
  bif (decide (v3 < (n5 : Int))) then
    ((((ixB 1 u0 v3).bind fun q6 =>
      (ldT (.int .i64) h4 (some q6)).bind fun x7 =>
      bif (decide (x7 < 0)) then
        (some ((true, ()), h4))
      else
        ((ixB 1 u0 v3).bind fun q8 =>
        (ldT (.int .i64) h4 (some q8)).bind fun x9 =>
        some (((decide (u1 ≤ x9)), ()), h4))) : Option ((Bool × Unit) × Heap)).bind fun a10 =>
    bif a10.1.1 then
      (some (.inr (.inr (((.slice none 0 0), (51, ())), a10.2))))
    else
      (some (.inl (((IntKind.i64.wrap (v3 + 1)), ()), a10.2))))
  else
    (some (.inr (.inl ((), h4))))
def f_wicketref05_Form_C12 (n : Nat) (u1 : Int) (u0 : Value) (h2 : Heap) : Option (((Unit) × Heap) ⊕ ((Value × Int × Unit) × Heap)) :=
  loopT (fun a => f_wicketref05_Form_L11 n u1 u0 a.1.1 a.2) n ((0, ()), h2)
def f_wicketref05_Form_L22 (n : Nat) (u1 : Int) (u0 : Value) (v14 : Value) (v15 : Int) (h16 : Heap) : Option (((Value × Int × Unit) × Heap) ⊕ ((Value × Unit) × Heap)) :=
  bif (decide (v15 < u1)) then
    ((((f_wicketref05_Has n u0 v15 h16).bind fun p17 =>
      bif p17.1.1 then
        ((fillL [(.int .i64 0)] [(0, 1, (.int .i64 v15))]).bind fun cs18 =>
        bnd ((Heap.new p17.2 (.cells cs18 false 1))) fun h19 =>
        (appendK h19 8 1 v14 (.slice (some ⟨Heap.next p17.2, 0, some 0⟩) 1 1)).bind fun p20 =>
        some ((p20.1, ()), p20.2))
      else
        (some ((v14, ()), p17.2))) : Option ((Value × Unit) × Heap)).bind fun a21 =>
    some (.inl ((a21.1.1, ((IntKind.i64.wrap (v15 + 1)), ())), a21.2)))
  else
    (some (.inr ((v14, ()), h16)))
noncomputable def sf_wicketref05_Form (n : Nat) : Sf := sfOf [(k_wicketref05_Has, s_wicketref05_Has n)]
noncomputable def it_wicketref05_Form (n : Nat) : It := itOf []
def f_wicketref05_Form (n : Nat) (u0 : Value) (u1 : Int) (u2 : Int) (h : Heap) : Option ((Value × Int × Unit) × Heap) :=
  ((bif (decide (u1 < 1)) then
      (some ((true, ()), h))
    else
      (bif (decide (64 < u1)) then
        (some ((true, ()), h))
      else
        (bif (decide (u2 < 1)) then
          (some ((true, ()), h))
        else
          (bif (decide (16 < u2)) then
            (some ((true, ()), h))
          else
            (some (((decide (u1 < u2)), ()), h)))))) : Option ((Bool × Unit) × Heap)).bind fun a0 =>
  bif a0.1.1 then
    (some (((.slice none 0 0), (2, ())), a0.2))
  else
    ((lenB u0).bind fun n1 =>
    bif (decide ((n1 : Int) = 0)) then
      (some (((.slice none 0 0), (50, ())), a0.2))
    else
      (thenB (f_wicketref05_Form_C12 n u1 u0 (a0.2)) fun a13 =>
      ((loopT (fun a => f_wicketref05_Form_L22 n u1 u0 a.1.1 a.1.2.1 a.2) n (((.slice none 0 0), (0, ())), a13.2)) : Option ((Value × Unit) × Heap)).bind fun a23 =>
      (lenB a23.1.1).bind fun n24 =>
      bif (decide (u2 < (n24 : Int))) then
        (some (((.slice none 0 0), (52, ())), a23.2))
      else
        (bif !isTuple a23.1.1 then
          (some ((a23.1.1, (0, ())), a23.2))
        else
          (none))))
def rs_wicketref05_Form : Rs := [(.tmp 6, .any), (.tmp 7, (.int .i64))]
def ps_wicketref05_Form : List Ty := [.any, (.int .i64), (.int .i64)]
theorem e_wicketref05_Form (n : Nat) (u0 : Value) (u1 : Int) (u2 : Int) (h : Heap) : f_wicketref05_Form n u0 u1 u2 h = fB (sf_wicketref05_Form n) (it_wicketref05_Form n) n c2_wicketref05_Form rs_wicketref05_Form ps_wicketref05_Form (u0, (u1, (u2, ()))) h := by kernel_rfl
noncomputable def s_wicketref05_Form (n : Nat) : Sf1 := mkSf ps_wicketref05_Form rs_wicketref05_Form fun a h => f_wicketref05_Form n a.1 a.2.1 a.2.2.1 h

/- wicket/wicketlaw05.Roomy -/
def c2_wicketlaw05_Roomy : C2 :=
  .seq (.reg [(⟨(some 2), .move (.const (.slice none 0 0)), none⟩, .any)]) <|
  .seq (.reg [(⟨(some 3), .move (.tmp 0), none⟩, .any),
      (⟨(some 4), .call k_wicketlaw05_Own [(.tmp 3)], none⟩, .any),
      (⟨(some 5), .buildSlice 2 1 [(.int .i64 0), (.int .i64 0)] [(0, 1, (.const (.int .i64 7777))), (1, 1, (.const (.int .i64 8888)))], none⟩, .any),
      (⟨(some 6), .append 8 1 (.tmp 4) (.tmp 5), none⟩, .any),
      (⟨(some 7), .move (.tmp 0), none⟩, .any),
      (⟨(some 8), .lenS (.tmp 7), none⟩, (.int .i64)),
      (⟨(some 9), .slice 1 (.tmp 6) none (some (.tmp 8)) none, none⟩, .any),
      (⟨(some 2), .move (.tmp 9), none⟩, .any)]) <|
  .ret
noncomputable def sf_wicketlaw05_Roomy (n : Nat) : Sf := sfOf [(k_wicketlaw05_Own, s_wicketlaw05_Own n)]
noncomputable def it_wicketlaw05_Roomy (n : Nat) : It := itOf []
def f_wicketlaw05_Roomy (n : Nat) (u0 : Value) (h : Heap) : Option ((Value × Unit) × Heap) :=
  (f_wicketlaw05_Own n u0 h).bind fun p0 =>
  (fillL [(.int .i64 0), (.int .i64 0)] [(0, 1, (.int .i64 7777)), (1, 1, (.int .i64 8888))]).bind fun cs1 =>
  bnd ((Heap.new p0.2 (.cells cs1 false 1))) fun h2 =>
  (appendK h2 8 1 p0.1.1 (.slice (some ⟨Heap.next p0.2, 0, some 0⟩) 2 2)).bind fun p3 =>
  (lenB u0).bind fun n4 =>
  (sliceK p3.2 1 none (some (.int .i64 (n4 : Int))) none p3.1).bind fun p5 =>
  bif !isTuple p5.1 then
    (some ((p5.1, ()), p3.2))
  else
    (none)
def rs_wicketlaw05_Roomy : Rs := [(.tmp 2, .any)]
def ps_wicketlaw05_Roomy : List Ty := [.any]
theorem e_wicketlaw05_Roomy (n : Nat) (u0 : Value) (h : Heap) : f_wicketlaw05_Roomy n u0 h = fB (sf_wicketlaw05_Roomy n) (it_wicketlaw05_Roomy n) n c2_wicketlaw05_Roomy rs_wicketlaw05_Roomy ps_wicketlaw05_Roomy (u0, ()) h := by kernel_rfl
noncomputable def s_wicketlaw05_Roomy (n : Nat) : Sf1 := mkSf ps_wicketlaw05_Roomy rs_wicketlaw05_Roomy fun a h => f_wicketlaw05_Roomy n a.1 h

/- wicket/blocks.rising -/
def c2_blocks_rising : C2 :=
  .seq (.reg [(⟨(some 2), .move (.const (.slice none 0 0)), none⟩, .any)]) <|
  .seq (.reg [(⟨(some 4), .move (.tmp 0), none⟩, .any),
      (⟨(some 5), .call k_slices_Clone_int_int [(.tmp 4)], none⟩, .any),
      (⟨(some 3), .move (.tmp 5), none⟩, .any)]) <|
  .seq (.reg [(⟨(some 6), .move (.tmp 3), none⟩, .any),
      (⟨(some 7), .call k_slices_Sort_int_int [(.tmp 6)], none⟩, .any)]) <|
  .seq (.reg [(⟨(some 8), .move (.tmp 3), none⟩, .any),
      (⟨(some 9), .call k_slices_Compact_int_int [(.tmp 8)], none⟩, .any),
      (⟨(some 10), .call k_slices_Clip_int_int [(.tmp 9)], none⟩, .any),
      (⟨(some 2), .move (.tmp 10), none⟩, .any)]) <|
  .ret
noncomputable def sf_blocks_rising (n : Nat) : Sf := sfOf [(k_slices_Clone_int_int, s_slices_Clone_int_int n), (k_slices_Sort_int_int, s_slices_Sort_int_int n), (k_slices_Compact_int_int, s_slices_Compact_int_int n), (k_slices_Clip_int_int, s_slices_Clip_int_int n)]
noncomputable def it_blocks_rising (n : Nat) : It := itOf []
def f_blocks_rising (n : Nat) (u0 : Value) (h : Heap) : Option ((Value × Unit) × Heap) :=
  (f_slices_Clone_int_int n u0 h).bind fun p0 =>
  (f_slices_Sort_int_int n p0.1.1 p0.2).bind fun p1 =>
  (f_slices_Compact_int_int n p0.1.1 p1.2).bind fun p2 =>
  (f_slices_Clip_int_int n p2.1.1 p2.2).bind fun p3 =>
  bif !isTuple p3.1.1 then
    (some ((p3.1.1, ()), p3.2))
  else
    (none)
def rs_blocks_rising : Rs := [(.tmp 2, .any)]
def ps_blocks_rising : List Ty := [.any]
theorem e_blocks_rising (n : Nat) (u0 : Value) (h : Heap) : f_blocks_rising n u0 h = fB (sf_blocks_rising n) (it_blocks_rising n) n c2_blocks_rising rs_blocks_rising ps_blocks_rising (u0, ()) h := by kernel_rfl
noncomputable def s_blocks_rising (n : Nat) : Sf1 := mkSf ps_blocks_rising rs_blocks_rising fun a h => f_blocks_rising n a.1 h

/- wicket/blocks.Form -/
def c2_blocks_Form : C2 :=
  .seq (.reg [(⟨(some 6), .move (.const (.slice none 0 0)), none⟩, .any),
      (⟨(some 7), .move (.const (.int .i64 0)), none⟩, (.int .i64))]) <|
  .seq (.seq (.cutn [(27, .bool)] <|
        .reg [(⟨(some 9), .move (.tmp 1), none⟩, (.int .i64)),
          (⟨(some 10), .bin .lss (.tmp 9) (.const (.int .i64 1)), none⟩, .bool),
          (⟨(some 11), .move (.tmp 10), none⟩, .bool),
          (⟨(some 12), .move (.tmp 1), some (11, false)⟩, (.int .i64)),
          (⟨(some 13), .bin .gtr (.tmp 12) (.const (.int .i64 64)), some (11, false)⟩, .bool),
          (⟨(some 14), .pick (.tmp 11) (.const (.bool true)) (.tmp 13), none⟩, .bool),
          (⟨(some 15), .move (.tmp 14), none⟩, .bool),
          (⟨(some 16), .move (.tmp 2), some (15, false)⟩, (.int .i64)),
          (⟨(some 17), .bin .lss (.tmp 16) (.const (.int .i64 1)), some (15, false)⟩, .bool),
          (⟨(some 18), .pick (.tmp 15) (.const (.bool true)) (.tmp 17), none⟩, .bool),
          (⟨(some 19), .move (.tmp 18), none⟩, .bool),
          (⟨(some 20), .move (.tmp 2), some (19, false)⟩, (.int .i64)),
          (⟨(some 21), .bin .gtr (.tmp 20) (.const (.int .i64 16)), some (19, false)⟩, .bool),
          (⟨(some 22), .pick (.tmp 19) (.const (.bool true)) (.tmp 21), none⟩, .bool),
          (⟨(some 23), .move (.tmp 22), none⟩, .bool),
          (⟨(some 24), .move (.tmp 2), some (23, false)⟩, (.int .i64)),
          (⟨(some 25), .move (.tmp 1), some (23, false)⟩, (.int .i64)),
          (⟨(some 26), .bin .gtr (.tmp 24) (.tmp 25), some (23, false)⟩, .bool),
          (⟨(some 27), .pick (.tmp 23) (.const (.bool true)) (.tmp 26), none⟩, .bool)]) <|
    .cond (.tmp 27)
      (.seq (.reg [(⟨(some 6), .move (.const (.slice none 0 0)), none⟩, .any),
          (⟨(some 7), .move (.const (.int .i64 2)), none⟩, (.int .i64))]) <|
      .ret)
      (.skip)) <|
  .seq (.seq (.reg [(⟨(some 28), .move (.tmp 0), none⟩, .any),
        (⟨(some 29), .lenS (.tmp 28), none⟩, (.int .i64)),
        (⟨(some 30), .bin .eql (.tmp 29) (.const (.int .i64 0)), none⟩, .bool)]) <|
    .cond (.tmp 30)
      (.seq (.reg [(⟨(some 6), .move (.const (.slice none 0 0)), none⟩, .any),
          (⟨(some 7), .move (.const (.int .i64 50)), none⟩, (.int .i64))]) <|
      .ret)
      (.skip)) <|
  .seq (.reg [(⟨(some 31), .move (.tmp 0), none⟩, .any),
      (⟨(some 32), .call k_blocks_rising [(.tmp 31)], none⟩, .any),
      (⟨(some 8), .move (.tmp 32), none⟩, .any)]) <|
  .seq (.block 0 <|
      .seq (.cutn [(33, .bool)] <|
          .reg [(⟨(some 34), .move (.tmp 8), none⟩, .any),
            (⟨(some 35), .idxSlice 1 (.tmp 34) (.const (.int .i64 0)), none⟩, .ptr),
            (⟨(some 36), .load false 1 (.tmp 35), none⟩, (.int .i64)),
            (⟨(some 37), .bin .lss (.tmp 36) (.const (.int .i64 0)), none⟩, .bool),
            (⟨(some 38), .move (.tmp 37), none⟩, .bool),
            (⟨(some 39), .move (.tmp 8), some (38, false)⟩, .any),
            (⟨(some 40), .move (.tmp 8), some (38, false)⟩, .any),
            (⟨(some 41), .lenS (.tmp 40), some (38, false)⟩, (.int .i64)),
            (⟨(some 42), .bin .sub (.tmp 41) (.const (.int .i64 1)), some (38, false)⟩, (.int .i64)),
            (⟨(some 43), .idxSlice 1 (.tmp 39) (.tmp 42), some (38, false)⟩, .ptr),
            (⟨(some 44), .load false 1 (.tmp 43), some (38, false)⟩, (.int .i64)),
            (⟨(some 45), .move (.tmp 1), some (38, false)⟩, (.int .i64)),
            (⟨(some 46), .bin .geq (.tmp 44) (.tmp 45), some (38, false)⟩, .bool),
            (⟨(some 47), .pick (.tmp 38) (.const (.bool true)) (.tmp 46), none⟩, .bool),
            (⟨(some 33), .move (.tmp 47), none⟩, .bool)]) <|
      .cond (.tmp 33)
        (.seq (.reg [(⟨(some 6), .move (.const (.slice none 0 0)), none⟩, .any),
            (⟨(some 7), .move (.const (.int .i64 51)), none⟩, (.int .i64))]) <|
        .ret)
        (.seq (.reg [(⟨(some 49), .move (.tmp 8), none⟩, .any),
            (⟨(some 50), .lenS (.tmp 49), none⟩, (.int .i64)),
            (⟨(some 51), .move (.tmp 2), none⟩, (.int .i64)),
            (⟨(some 52), .bin .gtr (.tmp 50) (.tmp 51), none⟩, .bool),
            (⟨(some 48), .move (.tmp 52), none⟩, .bool)]) <|
        .cond (.tmp 48)
          (.seq (.reg [(⟨(some 6), .move (.const (.slice none 0 0)), none⟩, .any),
              (⟨(some 7), .move (.const (.int .i64 52)), none⟩, (.int .i64))]) <|
          .ret)
          (.skip))) <|
  .seq (.reg [(⟨(some 53), .move (.tmp 8), none⟩, .any),
      (⟨(some 6), .move (.tmp 53), none⟩, .any),
      (⟨(some 7), .move (.const (.int .i64 0)), none⟩, (.int .i64))]) <|
  .ret
noncomputable def sf_blocks_Form (n : Nat) : Sf := sfOf [(k_blocks_rising, s_blocks_rising n)]
noncomputable def it_blocks_Form (n : Nat) : It := itOf []
def f_blocks_Form (n : Nat) (u0 : Value) (u1 : Int) (u2 : Int) (h : Heap) : Option ((Value × Int × Unit) × Heap) :=
  ((bif (decide (u1 < 1)) then
      (some ((true, ()), h))
    else
      (bif (decide (64 < u1)) then
        (some ((true, ()), h))
      else
        (bif (decide (u2 < 1)) then
          (some ((true, ()), h))
        else
          (bif (decide (16 < u2)) then
            (some ((true, ()), h))
          else
            (some (((decide (u1 < u2)), ()), h)))))) : Option ((Bool × Unit) × Heap)).bind fun a0 =>
  bif a0.1.1 then
    (some (((.slice none 0 0), (2, ())), a0.2))
  else
    ((lenB u0).bind fun n1 =>
    bif (decide ((n1 : Int) = 0)) then
      (some (((.slice none 0 0), (50, ())), a0.2))
    else
      ((f_blocks_rising n u0 a0.2).bind fun p2 =>
      (((ixB 1 p2.1.1 0).bind fun q3 =>
        (ldT (.int .i64) p2.2 (some q3)).bind fun x4 =>
        bif (decide (x4 < 0)) then
          (some ((true, ()), p2.2))
        else
          ((lenB p2.1.1).bind fun n5 =>
          (ixB 1 p2.1.1 (IntKind.i64.wrap ((n5 : Int) - 1))).bind fun q6 =>
          (ldT (.int .i64) p2.2 (some q6)).bind fun x7 =>
          some (((decide (u1 ≤ x7)), ()), p2.2))) : Option ((Bool × Unit) × Heap)).bind fun a8 =>
      bif a8.1.1 then
        (some (((.slice none 0 0), (51, ())), a8.2))
      else
        ((lenB p2.1.1).bind fun n9 =>
        bif (decide (u2 < (n9 : Int))) then
          (some (((.slice none 0 0), (52, ())), a8.2))
        else
          (bif !isTuple p2.1.1 then
            (some ((p2.1.1, (0, ())), a8.2))
          else
            (none)))))
def rs_blocks_Form : Rs := [(.tmp 6, .any), (.tmp 7, (.int .i64))]
def ps_blocks_Form : List Ty := [.any, (.int .i64), (.int .i64)]
theorem e_blocks_Form (n : Nat) (u0 : Value) (u1 : Int) (u2 : Int) (h : Heap) : f_blocks_Form n u0 u1 u2 h = fB (sf_blocks_Form n) (it_blocks_Form n) n c2_blocks_Form rs_blocks_Form ps_blocks_Form (u0, (u1, (u2, ()))) h := by kernel_rfl
noncomputable def s_blocks_Form (n : Nat) : Sf1 := mkSf ps_blocks_Form rs_blocks_Form fun a h => f_blocks_Form n a.1 a.2.1 a.2.2.1 h

/- wicket/wicketlaw05.BlocksForms -/
def c2_wicketlaw05_BlocksForms : C2 :=
  .seq (.reg [(⟨(some 4), .box (.tmp 1), none⟩, .ptr),
      (⟨(some 6), .move (.const (.bool false)), none⟩, .bool)]) <|
  .seq (.seq (.reg [(⟨(some 19), .call k_wicketlaw05_awake [], none⟩, .bool),
        (⟨(some 20), .un .not (.tmp 19), none⟩, .bool)]) <|
    .cond (.tmp 20)
      (.seq (.reg [(⟨(some 6), .move (.const (.bool false)), none⟩, .bool)]) <|
      .ret)
      (.skip)) <|
  .seq (.reg [(⟨(some 22), .move (.tmp 0), none⟩, .any),
      (⟨(some 23), .idxArr 2 1 (.tmp 4) (.const (.int .i64 0)), none⟩, .ptr),
      (⟨(some 24), .load false 1 (.tmp 23), none⟩, (.int .i64)),
      (⟨(some 25), .idxArr 2 1 (.tmp 4) (.const (.int .i64 1)), none⟩, .ptr),
      (⟨(some 26), .load false 1 (.tmp 25), none⟩, (.int .i64)),
      (⟨(some 27), .call k_wicketref05_Form [(.tmp 22), (.tmp 24), (.tmp 26)], none⟩, .any),
      (⟨(some 21), .move (.tmp 27), none⟩, .any),
      (⟨(some 28), .extract (.tmp 21) 0, none⟩, .any),
      (⟨(some 29), .extract (.tmp 21) 1, none⟩, (.int .i64)),
      (⟨(some 7), .move (.tmp 28), none⟩, .any),
      (⟨(some 8), .move (.tmp 29), none⟩, (.int .i64))]) <|
  .seq (.reg [(⟨(some 30), .move (.tmp 0), none⟩, .any),
      (⟨(some 31), .call k_wicketlaw05_Roomy [(.tmp 30)], none⟩, .any),
      (⟨(some 9), .move (.tmp 31), none⟩, .any)]) <|
  .seq (.reg [(⟨(some 33), .move (.tmp 9), none⟩, .any),
      (⟨(some 34), .idxArr 2 1 (.tmp 4) (.const (.int .i64 0)), none⟩, .ptr),
      (⟨(some 35), .load false 1 (.tmp 34), none⟩, (.int .i64)),
      (⟨(some 36), .idxArr 2 1 (.tmp 4) (.const (.int .i64 1)), none⟩, .ptr),
      (⟨(some 37), .load false 1 (.tmp 36), none⟩, (.int .i64)),
      (⟨(some 38), .call k_blocks_Form [(.tmp 33), (.tmp 35), (.tmp 37)], none⟩, .any),
      (⟨(some 32), .move (.tmp 38), none⟩, .any),
      (⟨(some 39), .extract (.tmp 32) 0, none⟩, .any),
      (⟨(some 40), .extract (.tmp 32) 1, none⟩, (.int .i64)),
      (⟨(some 10), .move (.tmp 39), none⟩, .any),
      (⟨(some 11), .move (.tmp 40), none⟩, (.int .i64))]) <|
  .seq (.seq (.cutn [(49, .bool)] <|
        .reg [(⟨(some 41), .move (.tmp 10), none⟩, .any),
          (⟨(some 42), .move (.tmp 7), none⟩, .any),
          (⟨(some 43), .call k_wicketref05_Same [(.tmp 41), (.tmp 42)], none⟩, .bool),
          (⟨(some 44), .un .not (.tmp 43), none⟩, .bool),
          (⟨(some 45), .move (.tmp 44), none⟩, .bool),
          (⟨(some 46), .move (.tmp 11), some (45, false)⟩, (.int .i64)),
          (⟨(some 47), .move (.tmp 8), some (45, false)⟩, (.int .i64)),
          (⟨(some 48), .bin .neq (.tmp 46) (.tmp 47), some (45, false)⟩, .bool),
          (⟨(some 49), .pick (.tmp 45) (.const (.bool true)) (.tmp 48), none⟩, .bool)]) <|
    .cond (.tmp 49)
      (.seq (.reg [(⟨(some 6), .move (.const (.bool false)), none⟩, .bool)]) <|
      .ret)
      (.skip)) <|
  .seq (.reg [(⟨(some 51), .move (.tmp 9), none⟩, .any),
      (⟨(some 52), .idxArr 2 1 (.tmp 4) (.const (.int .i64 0)), none⟩, .ptr),
      (⟨(some 53), .load false 1 (.tmp 52), none⟩, (.int .i64)),
      (⟨(some 54), .idxArr 2 1 (.tmp 4) (.const (.int .i64 1)), none⟩, .ptr),
      (⟨(some 55), .load false 1 (.tmp 54), none⟩, (.int .i64)),
      (⟨(some 56), .call k_blocks_Form [(.tmp 51), (.tmp 53), (.tmp 55)], none⟩, .any),
      (⟨(some 50), .move (.tmp 56), none⟩, .any),
      (⟨(some 57), .extract (.tmp 50) 0, none⟩, .any),
      (⟨(some 58), .extract (.tmp 50) 1, none⟩, (.int .i64)),
      (⟨(some 12), .move (.tmp 57), none⟩, .any),
      (⟨(some 13), .move (.tmp 58), none⟩, (.int .i64))]) <|
  .seq (.seq (.reg [(⟨(some 59), .move (.tmp 12), none⟩, .any),
        (⟨(some 60), .move (.tmp 7), none⟩, .any),
        (⟨(some 61), .call k_wicketref05_Same [(.tmp 59), (.tmp 60)], none⟩, .bool),
        (⟨(some 62), .un .not (.tmp 61), none⟩, .bool)]) <|
    .cond (.tmp 62)
      (.seq (.reg [(⟨(some 6), .move (.const (.bool false)), none⟩, .bool)]) <|
      .ret)
      (.skip)) <|
  .seq (.reg [(⟨(some 64), .move (.tmp 2), none⟩, .any),
      (⟨(some 65), .call k_wicketlaw05_Roomy [(.tmp 64)], none⟩, .any),
      (⟨(some 66), .call k_blocks_Form [(.tmp 65), (.const (.int .i64 64)), (.const (.int .i64 16))], none⟩, .any),
      (⟨(some 63), .move (.tmp 66), none⟩, .any),
      (⟨(some 67), .extract (.tmp 63) 0, none⟩, .any),
      (⟨(some 68), .extract (.tmp 63) 1, none⟩, (.int .i64)),
      (⟨(some 14), .move (.tmp 67), none⟩, .any),
      (⟨(some 15), .move (.tmp 68), none⟩, (.int .i64))]) <|
  .seq (.reg [(⟨(some 70), .move (.tmp 9), none⟩, .any),
      (⟨(some 71), .idxArr 2 1 (.tmp 4) (.const (.int .i64 0)), none⟩, .ptr),
      (⟨(some 72), .load false 1 (.tmp 71), none⟩, (.int .i64)),
      (⟨(some 73), .idxArr 2 1 (.tmp 4) (.const (.int .i64 1)), none⟩, .ptr),
      (⟨(some 74), .load false 1 (.tmp 73), none⟩, (.int .i64)),
      (⟨(some 75), .call k_blocks_Form [(.tmp 70), (.tmp 72), (.tmp 74)], none⟩, .any),
      (⟨(some 69), .move (.tmp 75), none⟩, .any),
      (⟨(some 76), .extract (.tmp 69) 0, none⟩, .any),
      (⟨(some 77), .extract (.tmp 69) 1, none⟩, (.int .i64)),
      (⟨(some 16), .move (.tmp 76), none⟩, .any),
      (⟨(some 17), .move (.tmp 77), none⟩, (.int .i64))]) <|
  .seq (.seq (.cutn [(99, .bool)] <|
        .reg [(⟨(some 78), .move (.tmp 16), none⟩, .any),
          (⟨(some 79), .move (.tmp 7), none⟩, .any),
          (⟨(some 80), .call k_wicketref05_Same [(.tmp 78), (.tmp 79)], none⟩, .bool),
          (⟨(some 81), .un .not (.tmp 80), none⟩, .bool),
          (⟨(some 82), .move (.tmp 81), none⟩, .bool),
          (⟨(some 83), .move (.tmp 10), some (82, false)⟩, .any),
          (⟨(some 84), .move (.tmp 7), some (82, false)⟩, .any),
          (⟨(some 85), .call k_wicketref05_Same [(.tmp 83), (.tmp 84)], some (82, false)⟩, .bool),
          (⟨(some 86), .un .not (.tmp 85), some (82, false)⟩, .bool),
          (⟨(some 87), .pick (.tmp 82) (.const (.bool true)) (.tmp 86), none⟩, .bool),
          (⟨(some 88), .move (.tmp 87), none⟩, .bool),
          (⟨(some 89), .move (.tmp 12), some (88, false)⟩, .any),
          (⟨(some 90), .move (.tmp 7), some (88, false)⟩, .any),
          (⟨(some 91), .call k_wicketref05_Same [(.tmp 89), (.tmp 90)], some (88, false)⟩, .bool),
          (⟨(some 92), .un .not (.tmp 91), some (88, false)⟩, .bool),
          (⟨(some 93), .pick (.tmp 88) (.const (.bool true)) (.tmp 92), none⟩, .bool),
          (⟨(some 94), .move (.tmp 93), none⟩, .bool),
          (⟨(some 95), .move (.tmp 9), some (94, false)⟩, .any),
          (⟨(some 96), .move (.tmp 0), some (94, false)⟩, .any),
          (⟨(some 97), .call k_wicketlaw05_Held [(.tmp 95), (.tmp 96)], some (94, false)⟩, .bool),
          (⟨(some 98), .un .not (.tmp 97), some (94, false)⟩, .bool),
          (⟨(some 99), .pick (.tmp 94) (.const (.bool true)) (.tmp 98), none⟩, .bool)]) <|
    .cond (.tmp 99)
      (.seq (.reg [(⟨(some 6), .move (.const (.bool false)), none⟩, .bool)]) <|
      .ret)
      (.skip)) <|
  .seq (.reg [(⟨(some 100), .move (.tmp 9), none⟩, .any),
      (⟨(some 101), .call k_wicketlaw05_turn [(.tmp 100)], none⟩, .any)]) <|
  .seq (.regd [(⟨0, [], false, ⟨(some 103), .move (.tmp 9), none⟩⟩, .any),
      (⟨2, [], false, ⟨(some 105), .idxArr 2 1 (.tmp 4) (.const (.int .i64 0)), none⟩⟩, .ptr),
      (⟨3, [2], false, ⟨(some 106), .load false 1 (.tmp 105), none⟩⟩, (.int .i64)),
      (⟨4, [], false, ⟨(some 107), .idxArr 2 1 (.tmp 4) (.const (.int .i64 1)), none⟩⟩, .ptr),
      (⟨5, [4], false, ⟨(some 108), .load false 1 (.tmp 107), none⟩⟩, (.int .i64)),
      (⟨1, [0], true, ⟨(some 104), .call k_wicketlaw05_Own [(.tmp 103)], none⟩⟩, .any),
      (⟨6, [1, 3, 5, 0, 2, 4], true, ⟨(some 109), .call k_wicketref05_Form [(.tmp 104), (.tmp 106), (.tmp 108)], none⟩⟩, .any),
      (⟨7, [6, 1, 3, 5, 0, 2, 4], false, ⟨(some 102), .move (.tmp 109), none⟩⟩, .any),
      (⟨8, [7, 6, 1, 3, 5, 0, 2, 4], false, ⟨(some 110), .extract (.tmp 102) 0, none⟩⟩, .any),
      (⟨9, [7, 6, 1, 3, 5, 0, 2, 4], false, ⟨(some 111), .extract (.tmp 102) 1, none⟩⟩, (.int .i64)),
      (⟨10, [8, 6, 0, 1, 2, 3, 4, 5, 7], false, ⟨(some 7), .move (.tmp 110), none⟩⟩, .any),
      (⟨11, [9, 10, 0, 1, 2, 3, 4, 5, 6, 7, 8], false, ⟨(some 8), .move (.tmp 111), none⟩⟩, (.int .i64))]) <|
  .seq (.reg [(⟨(some 113), .move (.tmp 9), none⟩, .any),
      (⟨(some 114), .idxArr 2 1 (.tmp 4) (.const (.int .i64 0)), none⟩, .ptr),
      (⟨(some 115), .load false 1 (.tmp 114), none⟩, (.int .i64)),
      (⟨(some 116), .idxArr 2 1 (.tmp 4) (.const (.int .i64 1)), none⟩, .ptr),
      (⟨(some 117), .load false 1 (.tmp 116), none⟩, (.int .i64)),
      (⟨(some 118), .call k_blocks_Form [(.tmp 113), (.tmp 115), (.tmp 117)], none⟩, .any),
      (⟨(some 112), .move (.tmp 118), none⟩, .any),
      (⟨(some 119), .extract (.tmp 112) 0, none⟩, .any),
      (⟨(some 120), .extract (.tmp 112) 1, none⟩, (.int .i64)),
      (⟨(some 18), .move (.tmp 119), none⟩, .any),
      (⟨(some 11), .move (.tmp 120), none⟩, (.int .i64))]) <|
  .seq (.reg [(⟨(some 121), .move (.tmp 18), none⟩, .any),
      (⟨(some 122), .move (.tmp 7), none⟩, .any),
      (⟨(some 123), .call k_wicketref05_Same [(.tmp 121), (.tmp 122)], none⟩, .bool),
      (⟨(some 124), .move (.tmp 123), none⟩, .bool),
      (⟨(some 125), .move (.tmp 11), some (124, true)⟩, (.int .i64)),
      (⟨(some 126), .move (.tmp 8), some (124, true)⟩, (.int .i64)),
      (⟨(some 127), .bin .eql (.tmp 125) (.tmp 126), some (124, true)⟩, .bool),
      (⟨(some 128), .pick (.tmp 124) (.tmp 127) (.const (.bool false)), none⟩, .bool),
      (⟨(some 129), .move (.tmp 128), none⟩, .bool),
      (⟨(some 130), .move (.tmp 10), some (129, true)⟩, .any),
      (⟨(some 131), .move (.tmp 12), some (129, true)⟩, .any),
      (⟨(some 132), .move (.tmp 14), some (129, true)⟩, .any),
      (⟨(some 133), .move (.tmp 16), some (129, true)⟩, .any),
      (⟨(some 134), .move (.tmp 18), some (129, true)⟩, .any),
      (⟨(some 135), .buildSlice 5 1 (List.replicate 5 (.slice none 0 0)) [(0, 1, (.tmp 130)), (1, 1, (.tmp 131)), (2, 1, (.tmp 132)), (3, 1, (.tmp 133)), (4, 1, (.tmp 134))], some (129, true)⟩, .any),
      (⟨(some 136), .call k_wicketlaw05_Apart [(.tmp 135)], some (129, true)⟩, .bool),
      (⟨(some 137), .pick (.tmp 129) (.tmp 136) (.const (.bool false)), none⟩, .bool),
      (⟨(some 6), .move (.tmp 137), none⟩, .bool)]) <|
  .ret
noncomputable def sf_wicketlaw05_BlocksForms (n : Nat) : Sf := sfOf [(k_wicketlaw05_awake, s_wicketlaw05_awake n), (k_wicketref05_Form, s_wicketref05_Form n), (k_wicketlaw05_Roomy, s_wicketlaw05_Roomy n), (k_blocks_Form, s_blocks_Form n), (k_wicketref05_Same, s_wicketref05_Same n), (k_wicketlaw05_Held, s_wicketlaw05_Held n), (k_wicketlaw05_turn, s_wicketlaw05_turn n), (k_wicketlaw05_Own, s_wicketlaw05_Own n), (k_wicketlaw05_Apart, s_wicketlaw05_Apart n)]
noncomputable def it_wicketlaw05_BlocksForms (n : Nat) : It := itOf []
def f_wicketlaw05_BlocksForms (n : Nat) (u0 : Value) (u1 : Value) (u2 : Value) (h : Heap) : Option ((Bool × Unit) × Heap) :=
  bif (cellsOf u1).all isCell then
    (bnd ((Heap.new h (.cells (cellsOf u1) false 0))) fun h0 =>
    (f_wicketlaw05_awake n h0).bind fun p1 =>
    bif (!p1.1.1) then
      (some ((false, ()), p1.2))
    else
      ((ixA 2 1 (some (nwA h)) 0).bind fun q2 =>
      (ldT (.int .i64) p1.2 (some q2)).bind fun x3 =>
      (ixA 2 1 (some (nwA h)) 1).bind fun q4 =>
      (ldT (.int .i64) p1.2 (some q4)).bind fun x5 =>
      (f_wicketref05_Form n u0 x3 x5 p1.2).bind fun p6 =>
      (f_wicketlaw05_Roomy n u0 p6.2).bind fun p7 =>
      (ixA 2 1 (some (nwA h)) 0).bind fun q8 =>
      (ldT (.int .i64) p7.2 (some q8)).bind fun x9 =>
      (ixA 2 1 (some (nwA h)) 1).bind fun q10 =>
      (ldT (.int .i64) p7.2 (some q10)).bind fun x11 =>
      (f_blocks_Form n p7.1.1 x9 x11 p7.2).bind fun p12 =>
      (((f_wicketref05_Same n p12.1.1 p6.1.1 p12.2).bind fun p13 =>
        bif (!p13.1.1) then
          (some ((true, ()), p13.2))
        else
          (some (((!decide (p12.1.2.1 = p6.1.2.1)), ()), p13.2))) : Option ((Bool × Unit) × Heap)).bind fun a14 =>
      bif a14.1.1 then
        (some ((false, ()), a14.2))
      else
        ((ixA 2 1 (some (nwA h)) 0).bind fun q15 =>
        (ldT (.int .i64) a14.2 (some q15)).bind fun x16 =>
        (ixA 2 1 (some (nwA h)) 1).bind fun q17 =>
        (ldT (.int .i64) a14.2 (some q17)).bind fun x18 =>
        (f_blocks_Form n p7.1.1 x16 x18 a14.2).bind fun p19 =>
        (f_wicketref05_Same n p19.1.1 p6.1.1 p19.2).bind fun p20 =>
        bif (!p20.1.1) then
          (some ((false, ()), p20.2))
        else
          ((f_wicketlaw05_Roomy n u2 p20.2).bind fun p21 =>
          (f_blocks_Form n p21.1.1 64 16 p21.2).bind fun p22 =>
          (ixA 2 1 (some (nwA h)) 0).bind fun q23 =>
          (ldT (.int .i64) p22.2 (some q23)).bind fun x24 =>
          (ixA 2 1 (some (nwA h)) 1).bind fun q25 =>
          (ldT (.int .i64) p22.2 (some q25)).bind fun x26 =>
          (f_blocks_Form n p7.1.1 x24 x26 p22.2).bind fun p27 =>
          (((f_wicketref05_Same n p27.1.1 p6.1.1 p27.2).bind fun p28 =>
            bif (!p28.1.1) then
              (some ((true, ()), p28.2))
            else
              ((f_wicketref05_Same n p12.1.1 p6.1.1 p28.2).bind fun p29 =>
              bif (!p29.1.1) then
                (some ((true, ()), p29.2))
              else
                ((f_wicketref05_Same n p19.1.1 p6.1.1 p29.2).bind fun p30 =>
                bif (!p30.1.1) then
                  (some ((true, ()), p30.2))
                else
                  ((f_wicketlaw05_Held n p7.1.1 u0 p30.2).bind fun p31 =>
                  some (((!p31.1.1), ()), p31.2))))) : Option ((Bool × Unit) × Heap)).bind fun a32 =>
          bif a32.1.1 then
            (some ((false, ()), a32.2))
          else
            ((f_wicketlaw05_turn n p7.1.1 a32.2).bind fun p33 =>
            (ixA 2 1 (some (nwA h)) 0).bind fun q34 =>
            (ldT (.int .i64) p33.2 (some q34)).bind fun x35 =>
            (ixA 2 1 (some (nwA h)) 1).bind fun q36 =>
            (ldT (.int .i64) p33.2 (some q36)).bind fun x37 =>
            (f_wicketlaw05_Own n p7.1.1 (hid p33.2 [] ((Addr.block q36) :: ((Addr.block q34) :: [])))).bind fun p38 =>
            bnd (Heap.putBack p38.2 p33.2 ([] ++ ((Addr.block q36) :: ((Addr.block q34) :: [])))) fun h39 =>
            (f_wicketref05_Form n p38.1.1 x35 x37 h39).bind fun p40 =>
            (ixA 2 1 (some (nwA h)) 0).bind fun q41 =>
            (ldT (.int .i64) p40.2 (some q41)).bind fun x42 =>
            (ixA 2 1 (some (nwA h)) 1).bind fun q43 =>
            (ldT (.int .i64) p40.2 (some q43)).bind fun x44 =>
            (f_blocks_Form n p7.1.1 x42 x44 p40.2).bind fun p45 =>
            (f_wicketref05_Same n p45.1.1 p40.1.1 p45.2).bind fun p46 =>
            bif p46.1.1 then
              (bif (decide (p45.1.2.1 = p40.1.2.1)) then
                ((fillL (List.replicate 5 (.slice none 0 0)) [(0, 1, p12.1.1), (1, 1, p19.1.1), (2, 1, p22.1.1), (3, 1, p27.1.1), (4, 1, p45.1.1)]).bind fun cs47 =>
                bnd ((Heap.new p46.2 (.cells cs47 false 1))) fun h48 =>
                (f_wicketlaw05_Apart n (.slice (some ⟨Heap.next p46.2, 0, some 0⟩) 5 5) h48).bind fun p49 =>
                some ((p49.1.1, ()), p49.2))
              else
                (some ((false, ()), p46.2)))
            else
              (some ((false, ()), p46.2)))))))
  else
    (none)
def rs_wicketlaw05_BlocksForms : Rs := [(.tmp 6, .bool)]
def ps_wicketlaw05_BlocksForms : List Ty := [.any, .any, .any]
theorem e_wicketlaw05_BlocksForms (n : Nat) (u0 : Value) (u1 : Value) (u2 : Value) (h : Heap) : f_wicketlaw05_BlocksForms n u0 u1 u2 h = fB (sf_wicketlaw05_BlocksForms n) (it_wicketlaw05_BlocksForms n) n c2_wicketlaw05_BlocksForms rs_wicketlaw05_BlocksForms ps_wicketlaw05_BlocksForms (u0, (u1, (u2, ()))) h := by kernel_rfl
noncomputable def s_wicketlaw05_BlocksForms (n : Nat) : Sf1 := mkSf ps_wicketlaw05_BlocksForms rs_wicketlaw05_BlocksForms fun a h => f_wicketlaw05_BlocksForms n a.1 a.2.1 a.2.2.1 h

/-- The table holds these. -/
structure LfT (T : Nat → Option AFun) : Prop where
  t_wicketlaw05_awake : PrimT_wicketlaw05_awake T
  t_slices_Sort_int_int : PrimT_slices_Sort_int_int T
  t_wicketref05_Same : T k_wicketref05_Same = some ⟨List.map (·.1) rs_wicketref05_Same, C2.erase c2_wicketref05_Same, none⟩
  t_wicketlaw05_Held : T k_wicketlaw05_Held = some ⟨List.map (·.1) rs_wicketlaw05_Held, C2.erase c2_wicketlaw05_Held, none⟩
  t_wicketlaw05_turn : T k_wicketlaw05_turn = some ⟨List.map (·.1) rs_wicketlaw05_turn, C2.erase c2_wicketlaw05_turn, none⟩
  t_wicketlaw05_Own : T k_wicketlaw05_Own = some ⟨List.map (·.1) rs_wicketlaw05_Own, C2.erase c2_wicketlaw05_Own, none⟩
  t_wicketlaw05_Apart : T k_wicketlaw05_Apart = some ⟨List.map (·.1) rs_wicketlaw05_Apart, C2.erase c2_wicketlaw05_Apart, none⟩
  t_wicketref05_Has : T k_wicketref05_Has = some ⟨List.map (·.1) rs_wicketref05_Has, C2.erase c2_wicketref05_Has, none⟩
  t_slices_Clone_int_int : T k_slices_Clone_int_int = some ⟨List.map (·.1) rs_slices_Clone_int_int, C2.erase c2_slices_Clone_int_int, none⟩
  t_slices_Clip_int_int : T k_slices_Clip_int_int = some ⟨List.map (·.1) rs_slices_Clip_int_int, C2.erase c2_slices_Clip_int_int, none⟩
  t_slices_Compact_int_int : T k_slices_Compact_int_int = some ⟨List.map (·.1) rs_slices_Compact_int_int, C2.erase c2_slices_Compact_int_int, none⟩
  t_wicketref05_Form : T k_wicketref05_Form = some ⟨List.map (·.1) rs_wicketref05_Form, C2.erase c2_wicketref05_Form, none⟩
  t_wicketlaw05_Roomy : T k_wicketlaw05_Roomy = some ⟨List.map (·.1) rs_wicketlaw05_Roomy, C2.erase c2_wicketlaw05_Roomy, none⟩
  t_blocks_rising : T k_blocks_rising = some ⟨List.map (·.1) rs_blocks_rising, C2.erase c2_blocks_rising, none⟩
  t_blocks_Form : T k_blocks_Form = some ⟨List.map (·.1) rs_blocks_Form, C2.erase c2_blocks_Form, none⟩
  t_wicketlaw05_BlocksForms : T k_wicketlaw05_BlocksForms = some ⟨List.map (·.1) rs_wicketlaw05_BlocksForms, C2.erase c2_wicketlaw05_BlocksForms, none⟩
variable {T : Nat → Option AFun}
theorem ok_wicketlaw05_awake (hT : LfT T) (n : Nat) : Sf1Ok T k_wicketlaw05_awake (s_wicketlaw05_awake n) := primOk_wicketlaw05_awake hT.t_wicketlaw05_awake n
theorem ok_slices_Sort_int_int (hT : LfT T) (n : Nat) : Sf1Ok T k_slices_Sort_int_int (s_slices_Sort_int_int n) := primOk_slices_Sort_int_int hT.t_slices_Sort_int_int n
theorem ok_wicketref05_Same (hT : LfT T) (n : Nat) : Sf1Ok T k_wicketref05_Same (s_wicketref05_Same n) := mkSf_ok (sf := sf_wicketref05_Same n) (it := it_wicketref05_Same n) (n := n) hT.t_wicketref05_Same sfOk_nil itOk_nil fun a h => e_wicketref05_Same n a.1 a.2.1 h
theorem ok_wicketlaw05_Held (hT : LfT T) (n : Nat) : Sf1Ok T k_wicketlaw05_Held (s_wicketlaw05_Held n) := mkSf_ok (sf := sf_wicketlaw05_Held n) (it := it_wicketlaw05_Held n) (n := n) hT.t_wicketlaw05_Held (sfOk_cons (ok_wicketref05_Same hT n) sfOk_nil) itOk_nil fun a h => e_wicketlaw05_Held n a.1 a.2.1 h
theorem ok_wicketlaw05_turn (hT : LfT T) (n : Nat) : Sf1Ok T k_wicketlaw05_turn (s_wicketlaw05_turn n) := mkSf_ok (sf := sf_wicketlaw05_turn n) (it := it_wicketlaw05_turn n) (n := n) hT.t_wicketlaw05_turn sfOk_nil itOk_nil fun a h => e_wicketlaw05_turn n a.1 h
theorem ok_wicketlaw05_Own (hT : LfT T) (n : Nat) : Sf1Ok T k_wicketlaw05_Own (s_wicketlaw05_Own n) := mkSf_ok (sf := sf_wicketlaw05_Own n) (it := it_wicketlaw05_Own n) (n := n) hT.t_wicketlaw05_Own sfOk_nil itOk_nil fun a h => e_wicketlaw05_Own n a.1 h
theorem ok_wicketlaw05_Apart (hT : LfT T) (n : Nat) : Sf1Ok T k_wicketlaw05_Apart (s_wicketlaw05_Apart n) := mkSf_ok (sf := sf_wicketlaw05_Apart n) (it := it_wicketlaw05_Apart n) (n := n) hT.t_wicketlaw05_Apart sfOk_nil itOk_nil fun a h => e_wicketlaw05_Apart n a.1 h
theorem ok_wicketref05_Has (hT : LfT T) (n : Nat) : Sf1Ok T k_wicketref05_Has (s_wicketref05_Has n) := mkSf_ok (sf := sf_wicketref05_Has n) (it := it_wicketref05_Has n) (n := n) hT.t_wicketref05_Has sfOk_nil itOk_nil fun a h => e_wicketref05_Has n a.1 a.2.1 h
theorem ok_slices_Clone_int_int (hT : LfT T) (n : Nat) : Sf1Ok T k_slices_Clone_int_int (s_slices_Clone_int_int n) := mkSf_ok (sf := sf_slices_Clone_int_int n) (it := it_slices_Clone_int_int n) (n := n) hT.t_slices_Clone_int_int sfOk_nil itOk_nil fun a h => e_slices_Clone_int_int n a.1 h
theorem ok_slices_Clip_int_int (hT : LfT T) (n : Nat) : Sf1Ok T k_slices_Clip_int_int (s_slices_Clip_int_int n) := mkSf_ok (sf := sf_slices_Clip_int_int n) (it := it_slices_Clip_int_int n) (n := n) hT.t_slices_Clip_int_int sfOk_nil itOk_nil fun a h => e_slices_Clip_int_int n a.1 h
theorem ok_slices_Compact_int_int (hT : LfT T) (n : Nat) : Sf1Ok T k_slices_Compact_int_int (s_slices_Compact_int_int n) := mkSf_ok (sf := sf_slices_Compact_int_int n) (it := it_slices_Compact_int_int n) (n := n) hT.t_slices_Compact_int_int sfOk_nil itOk_nil fun a h => e_slices_Compact_int_int n a.1 h
theorem ok_wicketref05_Form (hT : LfT T) (n : Nat) : Sf1Ok T k_wicketref05_Form (s_wicketref05_Form n) := mkSf_ok (sf := sf_wicketref05_Form n) (it := it_wicketref05_Form n) (n := n) hT.t_wicketref05_Form (sfOk_cons (ok_wicketref05_Has hT n) sfOk_nil) itOk_nil fun a h => e_wicketref05_Form n a.1 a.2.1 a.2.2.1 h
theorem ok_wicketlaw05_Roomy (hT : LfT T) (n : Nat) : Sf1Ok T k_wicketlaw05_Roomy (s_wicketlaw05_Roomy n) := mkSf_ok (sf := sf_wicketlaw05_Roomy n) (it := it_wicketlaw05_Roomy n) (n := n) hT.t_wicketlaw05_Roomy (sfOk_cons (ok_wicketlaw05_Own hT n) sfOk_nil) itOk_nil fun a h => e_wicketlaw05_Roomy n a.1 h
theorem ok_blocks_rising (hT : LfT T) (n : Nat) : Sf1Ok T k_blocks_rising (s_blocks_rising n) := mkSf_ok (sf := sf_blocks_rising n) (it := it_blocks_rising n) (n := n) hT.t_blocks_rising (sfOk_cons (ok_slices_Clone_int_int hT n) (sfOk_cons (ok_slices_Sort_int_int hT n) (sfOk_cons (ok_slices_Compact_int_int hT n) (sfOk_cons (ok_slices_Clip_int_int hT n) sfOk_nil)))) itOk_nil fun a h => e_blocks_rising n a.1 h
theorem ok_blocks_Form (hT : LfT T) (n : Nat) : Sf1Ok T k_blocks_Form (s_blocks_Form n) := mkSf_ok (sf := sf_blocks_Form n) (it := it_blocks_Form n) (n := n) hT.t_blocks_Form (sfOk_cons (ok_blocks_rising hT n) sfOk_nil) itOk_nil fun a h => e_blocks_Form n a.1 a.2.1 a.2.2.1 h
theorem ok_wicketlaw05_BlocksForms (hT : LfT T) (n : Nat) : Sf1Ok T k_wicketlaw05_BlocksForms (s_wicketlaw05_BlocksForms n) := mkSf_ok (sf := sf_wicketlaw05_BlocksForms n) (it := it_wicketlaw05_BlocksForms n) (n := n) hT.t_wicketlaw05_BlocksForms (sfOk_cons (ok_wicketlaw05_awake hT n) (sfOk_cons (ok_wicketref05_Form hT n) (sfOk_cons (ok_wicketlaw05_Roomy hT n) (sfOk_cons (ok_blocks_Form hT n) (sfOk_cons (ok_wicketref05_Same hT n) (sfOk_cons (ok_wicketlaw05_Held hT n) (sfOk_cons (ok_wicketlaw05_turn hT n) (sfOk_cons (ok_wicketlaw05_Own hT n) (sfOk_cons (ok_wicketlaw05_Apart hT n) sfOk_nil))))))))) itOk_nil fun a h => e_wicketlaw05_BlocksForms n a.1 a.2.1 a.2.2.1 h
end Go.Proofs.Ythfkoanomhnpjaa
