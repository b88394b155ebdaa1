/- The functions at hand as plain typed functions, each with the proof that it is what the abstract machine's code does. -/
import Derived.Test.YtadkkmingfajdaaB9
import Derived.KernelRfl
namespace Go.Proofs.Ytadkkmingfajdaa
open Go
set_option linter.unusedVariables false
set_option maxRecDepth 100000
def k_wicketlaw14_awake : Nat := 6
def k_wicketlaw14_blocksOf : Nat := 4
def k_wicketlaw14_num : Nat := 7
def k_lock_New : Nat := 12
def k_wicketlaw14_set : Nat := 13
def k_wicketlaw14_sameTickets : Nat := 16
def k_lock_rises : Nat := 18
def k_ticket_Queue_Put : Nat := 19
def k_slices_Clone_int_int : Nat := 20
def k_blocks_Next : Nat := 21
def k_wicketlaw14_sameInts : Nat := 23
def k_lock_Locks_Held : Nat := 24
def k_lock_Locks_Next : Nat := 26
def k_slices_Delete_uint64_uint64 : Nat := 30
def k_ticket_Queue_Len : Nat := 32
def k_ticket_Queue_All_1 : Nat := 33
def k_slices_Index_int_int : Nat := 34
def k_lock_Locks_Lay : Nat := 8
def k_wicketlaw14_made : Nat := 14
def k_ticket_Queue_First : Nat := 27
def k_ticket_Queue_All : Nat := 28
def k_ticket_Queue_Place : Nat := 29
def k_slices_Contains_int_int : Nat := 31
def k_wicketlaw14_crowd : Nat := 5
def k_lock_Locks_Ready : Nat := 15
def k_lock_Locks_Queue : Nat := 17
def k_ticket_Queue_Drop : Nat := 22
def k_lock_Locks_Holder : Nat := 25
def k_lock_Locks_Take : Nat := 9
def k_lock_Locks_Drop : Nat := 10
def k_wicketlaw14_fair : Nat := 11
def k_wicketlaw14_LockRefused : Nat := 3

def f_wicketlaw14_awake (n : Nat) (h : Heap) : Option ((Bool × Unit) × Heap) := yesB h
noncomputable def s_wicketlaw14_awake (n : Nat) : Sf1 := mkSf [] [(.tmp 0, .bool)] fun a h => f_wicketlaw14_awake n h
def PrimT_wicketlaw14_awake (T : Nat → Option AFun) : Prop := T k_wicketlaw14_awake = some ⟨[], .skip, some yes⟩
theorem primOk_wicketlaw14_awake {T : Nat → Option AFun} (hT : PrimT_wicketlaw14_awake T) (n : Nat) : Sf1Ok T k_wicketlaw14_awake (s_wicketlaw14_awake n) := yes_sf hT

/- wicket/wicketlaw14.blocksOf -/
def c2_wicketlaw14_blocksOf : C2 :=
  .seq (.reg [(⟨(some 2), .move (.const (.int .i64 0)), none⟩, (.int .i64))]) <|
  .seq (.reg [(⟨(some 3), .move (.tmp 0), none⟩, (.int .i64)),
      (⟨(some 4), .bin .rem (.tmp 3) (.const (.int .i64 9)), none⟩, (.int .i64)),
      (⟨(some 5), .bin .add (.tmp 4) (.const (.int .i64 9)), none⟩, (.int .i64)),
      (⟨(some 6), .bin .rem (.tmp 5) (.const (.int .i64 9)), none⟩, (.int .i64)),
      (⟨(some 7), .bin .add (.const (.int .i64 1)) (.tmp 6), none⟩, (.int .i64)),
      (⟨(some 2), .move (.tmp 7), none⟩, (.int .i64))]) <|
  .ret
noncomputable def sf_wicketlaw14_blocksOf (n : Nat) : Sf := sfOf []
noncomputable def it_wicketlaw14_blocksOf (n : Nat) : It := itOf []
def f_wicketlaw14_blocksOf (n : Nat) (u0 : Int) (h : Heap) : Option ((Int × Unit) × Heap) :=
  some (((IntKind.i64.wrap (1 + (Int.tmod (IntKind.i64.wrap ((Int.tmod u0 9) + 9)) 9))), ()), h)
def rs_wicketlaw14_blocksOf : Rs := [(.tmp 2, (.int .i64))]
def ps_wicketlaw14_blocksOf : List Ty := [(.int .i64)]
theorem e_wicketlaw14_blocksOf (n : Nat) (u0 : Int) (h : Heap) : f_wicketlaw14_blocksOf n u0 h = fB (sf_wicketlaw14_blocksOf n) (it_wicketlaw14_blocksOf n) n c2_wicketlaw14_blocksOf rs_wicketlaw14_blocksOf ps_wicketlaw14_blocksOf (u0, ()) h := by kernel_rfl
noncomputable def s_wicketlaw14_blocksOf (n : Nat) : Sf1 := mkSf ps_wicketlaw14_blocksOf rs_wicketlaw14_blocksOf fun a h => f_wicketlaw14_blocksOf n a.1 h

/- wicket/wicketlaw14.num -/
def c2_wicketlaw14_num : C2 :=
  .seq (.reg [(⟨(some 2), .move (.const (.int .i64 0)), none⟩, (.int .i64))]) <|
  .seq (.reg [(⟨(some 3), .move (.tmp 0), none⟩, (.int .i64)),
      (⟨(some 2), .move (.tmp 3), none⟩, (.int .i64))]) <|
  .ret
noncomputable def sf_wicketlaw14_num (n : Nat) : Sf := sfOf []
noncomputable def it_wicketlaw14_num (n : Nat) : It := itOf []
def f_wicketlaw14_num (n : Nat) (u0 : Int) (h : Heap) : Option ((Int × Unit) × Heap) :=
  some ((u0, ()), h)
def rs_wicketlaw14_num : Rs := [(.tmp 2, (.int .i64))]
def ps_wicketlaw14_num : List Ty := [(.int .i64)]
theorem e_wicketlaw14_num (n : Nat) (u0 : Int) (h : Heap) : f_wicketlaw14_num n u0 h = fB (sf_wicketlaw14_num n) (it_wicketlaw14_num n) n c2_wicketlaw14_num rs_wicketlaw14_num ps_wicketlaw14_num (u0, ()) h := by kernel_rfl
noncomputable def s_wicketlaw14_num (n : Nat) : Sf1 := mkSf ps_wicketlaw14_num rs_wicketlaw14_num fun a h => f_wicketlaw14_num n a.1 h

/- wicket/lock.New -/
def c2_lock_New : C2 :=
  .seq (.reg [(⟨(some 2), .move (.const (.pointer none)), none⟩, .ptr),
      (⟨(some 3), .move (.const (.int .i64 0)), none⟩, (.int .i64))]) <|
  .seq (.seq (.cutn [(10, .bool)] <|
        .reg [(⟨(some 5), .move (.tmp 0), none⟩, (.int .i64)),
          (⟨(some 6), .bin .lss (.tmp 5) (.const (.int .i64 1)), none⟩, .bool),
          (⟨(some 7), .move (.tmp 6), none⟩, .bool),
          (⟨(some 8), .move (.tmp 0), some (7, false)⟩, (.int .i64)),
          (⟨(some 9), .bin .gtr (.tmp 8) (.const (.int .i64 64)), some (7, false)⟩, .bool),
          (⟨(some 10), .pick (.tmp 7) (.const (.bool true)) (.tmp 9), none⟩, .bool)]) <|
    .cond (.tmp 10)
      (.seq (.reg [(⟨(some 2), .move (.const (.pointer none)), none⟩, .ptr),
          (⟨(some 3), .move (.const (.int .i64 2)), none⟩, (.int .i64))]) <|
      .ret)
      (.skip)) <|
  .seq (.reg [(⟨(some 11), .makeMap, none⟩, .any),
      (⟨(some 12), .build [(.slice none 0 0), (.int .u64 0), (.map none)] [(2, 1, (.tmp 11))], none⟩, .any),
      (⟨(some 13), .box (.tmp 12), none⟩, .ptr),
      (⟨(some 4), .move (.tmp 13), none⟩, .ptr)]) <|
  .seq (.cutn [] <|
      .seq (.reg [(⟨(some 14), .move (.tmp 0), none⟩, (.int .i64)),
          (⟨(some 15), .move (.const (.int .i64 0)), none⟩, (.int .i64))]) <|
      .block 0 <|
        .loop [(15, (.int .i64))] <|
          .seq (.reg [(⟨(some 16), .bin .lss (.tmp 15) (.tmp 14), none⟩, .bool)]) <|
          .seq (.cond (.tmp 16)
              (.skip)
              (.exit 0)) <|
          .seq (.block 1 <|
              .reg [(⟨(some 17), .move (.tmp 4), none⟩, .ptr),
                (⟨(some 18), .move (.tmp 4), none⟩, .ptr),
                (⟨(some 19), .nilCheck (.tmp 18), none⟩, .ptr),
                (⟨(some 20), .fieldAddr 0 (.tmp 19), none⟩, .ptr),
                (⟨(some 21), .load false 1 (.tmp 20), none⟩, .any),
                (⟨(some 22), .build [(.slice none 0 0), (.int .u64 0)] [], none⟩, .any),
                (⟨(some 23), .box (.tmp 22), none⟩, .ptr),
                (⟨(some 24), .buildSlice 1 1 [(.pointer none)] [(0, 1, (.tmp 23))], none⟩, .any),
                (⟨(some 25), .append 8 1 (.tmp 21) (.tmp 24), none⟩, .any),
                (⟨(some 26), .nilCheck (.tmp 17), none⟩, .ptr),
                (⟨(some 27), .fieldAddr 0 (.tmp 26), none⟩, .ptr),
                (⟨none, .store 1 (.tmp 27) (.tmp 25), none⟩, .any)]) <|
          .reg [(⟨(some 28), .bin .add (.tmp 15) (.const (.int .i64 1)), none⟩, (.int .i64)),
            (⟨(some 15), .move (.tmp 28), none⟩, (.int .i64))]) <|
  .seq (.reg [(⟨(some 29), .move (.tmp 4), none⟩, .ptr),
      (⟨(some 2), .move (.tmp 29), none⟩, .ptr),
      (⟨(some 3), .move (.const (.int .i64 0)), none⟩, (.int .i64))]) <|
  .ret
def f_lock_New_L13 (n : Nat) (u0 : Int) (h1 : Heap) (v4 : Int) (h5 : Heap) : Option (((Int × Unit) × Heap) ⊕ ((Unit) × Heap)) :=
  bif (decide (v4 < u0)) then
    ((ldT .any h5 (some (fa (nwA h1) 0))).bind fun x6 =>
    (fillL [(.slice none 0 0), (.int .u64 0)] []).bind fun cs7 =>
    bif (cs7 : List Value).all isCell then
      (bnd ((Heap.new h5 (.cells cs7 false 0))) fun h8 =>
      (fillL [(.pointer none)] [(0, 1, (.pointer (some (nwA h5))))]).bind fun cs9 =>
      bnd ((Heap.new h8 (.cells cs9 false 1))) fun h10 =>
      (appendK h10 8 1 x6 (.slice (some ⟨Heap.next h8, 0, some 0⟩) 1 1)).bind fun p11 =>
      (stB 1 p11.1 p11.2 (some (fa (nwA h1) 0))).bind fun h12 =>
      some (.inl (((IntKind.i64.wrap (v4 + 1)), ()), h12)))
    else
      (none))
  else
    (some (.inr ((), h5)))
noncomputable def sf_lock_New (n : Nat) : Sf := sfOf []
noncomputable def it_lock_New (n : Nat) : It := itOf []
def f_lock_New (n : Nat) (u0 : Int) (h : Heap) : Option ((Option Addr × Int × Unit) × Heap) :=
  ((bif (decide (u0 < 1)) then
      (some ((true, ()), h))
    else
      (some (((decide (64 < u0)), ()), h))) : Option ((Bool × Unit) × Heap)).bind fun a0 =>
  bif a0.1.1 then
    (some ((none, (2, ())), a0.2))
  else
    (bnd ((Heap.new a0.2 (.map []))) fun h1 =>
    (fillL [(.slice none 0 0), (.int .u64 0), (.map none)] [(2, 1, (.map (some (Heap.next a0.2))))]).bind fun cs2 =>
    bif (cs2 : List Value).all isCell then
      (bnd ((Heap.new h1 (.cells cs2 false 0))) fun h3 =>
      ((loopT (fun a => f_lock_New_L13 n u0 h1 a.1.1 a.2) n ((0, ()), h3)) : Option ((Unit) × Heap)).bind fun a14 =>
      some (((some (nwA h1)), (0, ())), a14.2))
    else
      (none))
def rs_lock_New : Rs := [(.tmp 2, .ptr), (.tmp 3, (.int .i64))]
def ps_lock_New : List Ty := [(.int .i64)]
theorem e_lock_New (n : Nat) (u0 : Int) (h : Heap) : f_lock_New n u0 h = fB (sf_lock_New n) (it_lock_New n) n c2_lock_New rs_lock_New ps_lock_New (u0, ()) h := by kernel_rfl
noncomputable def s_lock_New (n : Nat) : Sf1 := mkSf ps_lock_New rs_lock_New fun a h => f_lock_New n a.1 h

/- wicket/wicketlaw14.set -/
def c2_wicketlaw14_set : C2 :=
  .seq (.reg [(⟨(some 4), .move (.const (.slice none 0 0)), none⟩, .any)]) <|
  .seq (.reg [(⟨(some 5), .move (.const (.slice none 0 0)), none⟩, .any)]) <|
  .seq (.cutn [(5, .any)] <|
      .seq (.reg [(⟨(some 6), .move (.const (.int .i64 0)), none⟩, (.int .i64))]) <|
      .block 0 <|
        .loop [(5, .any), (6, (.int .i64))] <|
          .seq (.seq (.reg [(⟨(some 7), .move (.tmp 6), none⟩, (.int .i64)),
                (⟨(some 8), .move (.tmp 1), none⟩, (.int .i64)),
                (⟨(some 9), .bin .lss (.tmp 7) (.tmp 8), none⟩, .bool)]) <|
            .cond (.tmp 9)
              (.skip)
              (.exit 0)) <|
          .seq (.cutn [(5, .any)] <|
              .block 1 <|
                .seq (.reg [(⟨(some 12), .move (.tmp 0), none⟩, (.int .u64)),
                    (⟨(some 13), .move (.tmp 6), none⟩, (.int .i64)),
                    (⟨(some 14), .bin .shr (.tmp 12) (.tmp 13), none⟩, (.int .u64)),
                    (⟨(some 15), .bin .and (.tmp 14) (.const (.int .u64 1)), none⟩, (.int .u64)),
                    (⟨(some 16), .bin .eql (.tmp 15) (.const (.int .u64 1)), none⟩, .bool)]) <|
                .cond (.tmp 16)
                  (.reg [(⟨(some 17), .move (.tmp 5), none⟩, .any),
                    (⟨(some 18), .move (.tmp 6), none⟩, (.int .i64)),
                    (⟨(some 19), .buildSlice 1 1 [(.int .i64 0)] [(0, 1, (.tmp 18))], none⟩, .any),
                    (⟨(some 20), .append 8 1 (.tmp 17) (.tmp 19), none⟩, .any),
                    (⟨(some 5), .move (.tmp 20), none⟩, .any)])
                  (.skip)) <|
          .reg [(⟨(some 10), .move (.tmp 6), none⟩, (.int .i64)),
            (⟨(some 11), .bin .add (.tmp 10) (.const (.int .i64 1)), none⟩, (.int .i64)),
            (⟨(some 6), .move (.tmp 11), none⟩, (.int .i64))]) <|
  .seq (.seq (.reg [(⟨(some 21), .move (.tmp 5), none⟩, .any),
        (⟨(some 22), .lenS (.tmp 21), none⟩, (.int .i64)),
        (⟨(some 23), .bin .eql (.tmp 22) (.const (.int .i64 0)), none⟩, .bool)]) <|
    .cond (.tmp 23)
      (.reg [(⟨(some 24), .move (.tmp 0), none⟩, (.int .u64)),
        (⟨(some 25), .move (.tmp 1), none⟩, (.int .i64)),
        (⟨(some 26), .conv .u64 (.tmp 25), none⟩, (.int .u64)),
        (⟨(some 27), .bin .rem (.tmp 24) (.tmp 26), none⟩, (.int .u64)),
        (⟨(some 28), .conv .i64 (.tmp 27), none⟩, (.int .i64)),
        (⟨(some 29), .buildSlice 1 1 [(.int .i64 0)] [(0, 1, (.tmp 28))], none⟩, .any),
        (⟨(some 5), .move (.tmp 29), none⟩, .any)])
      (.skip)) <|
  .seq (.reg [(⟨(some 30), .move (.tmp 5), none⟩, .any),
      (⟨(some 4), .move (.tmp 30), none⟩, .any)]) <|
  .ret
def f_wicketlaw14_set_L9 (n : Nat) (u1 : Int) (u0 : Int) (v0 : Value) (v1 : Int) (h2 : Heap) : Option (((Value × Int × Unit) × Heap) ⊕ ((Value × Unit) × Heap)) :=
  bif (decide (v1 < u1)) then
    ((((bitB .shr .u64 u0 .i64 v1).bind fun x3 =>
      (bitB .and .u64 x3 .u64 1).bind fun x4 =>
      bif (decide (x4 = 1)) then
        ((fillL [(.int .i64 0)] [(0, 1, (.int .i64 v1))]).bind fun cs5 =>
        bnd ((Heap.new h2 (.cells cs5 false 1))) fun h6 =>
        (appendK h6 8 1 v0 (.slice (some ⟨Heap.next h2, 0, some 0⟩) 1 1)).bind fun p7 =>
        some ((p7.1, ()), p7.2))
      else
        (some ((v0, ()), h2))) : Option ((Value × Unit) × Heap)).bind fun a8 =>
    some (.inl ((a8.1.1, ((IntKind.i64.wrap (v1 + 1)), ())), a8.2)))
  else
    (some (.inr ((v0, ()), h2)))
noncomputable def sf_wicketlaw14_set (n : Nat) : Sf := sfOf []
noncomputable def it_wicketlaw14_set (n : Nat) : It := itOf []
def f_wicketlaw14_set (n : Nat) (u0 : Int) (u1 : Int) (h : Heap) : Option ((Value × Unit) × Heap) :=
  ((loopT (fun a => f_wicketlaw14_set_L9 n u1 u0 a.1.1 a.1.2.1 a.2) n (((.slice none 0 0), (0, ())), h)) : Option ((Value × Unit) × Heap)).bind fun a10 =>
  (lenB a10.1.1).bind fun n11 =>
  bif (decide ((n11 : Int) = 0)) then
    (bif decide ((IntKind.u64.wrap (u1)) = 0) then
      (none)
    else
      ((fillL [(.int .i64 0)] [(0, 1, (.int .i64 (IntKind.i64.wrap ((Int.tmod u0 (IntKind.u64.wrap (u1)))))))]).bind fun cs12 =>
      bnd ((Heap.new a10.2 (.cells cs12 false 1))) fun h13 =>
      some (((.slice (some ⟨Heap.next a10.2, 0, some 0⟩) 1 1), ()), h13)))
  else
    (bif !isTuple a10.1.1 then
      (some ((a10.1.1, ()), a10.2))
    else
      (none))
def rs_wicketlaw14_set : Rs := [(.tmp 4, .any)]
def ps_wicketlaw14_set : List Ty := [(.int .u64), (.int .i64)]
theorem e_wicketlaw14_set (n : Nat) (u0 : Int) (u1 : Int) (h : Heap) : f_wicketlaw14_set n u0 u1 h = fB (sf_wicketlaw14_set n) (it_wicketlaw14_set n) n c2_wicketlaw14_set rs_wicketlaw14_set ps_wicketlaw14_set (u0, (u1, ())) h := by kernel_rfl
noncomputable def s_wicketlaw14_set (n : Nat) : Sf1 := mkSf ps_wicketlaw14_set rs_wicketlaw14_set fun a h => f_wicketlaw14_set n a.1 a.2.1 h

/- wicket/wicketlaw14.sameTickets -/
def c2_wicketlaw14_sameTickets : C2 :=
  .seq (.reg [(⟨(some 4), .move (.const (.bool false)), none⟩, .bool)]) <|
  .seq (.seq (.reg [(⟨(some 6), .move (.tmp 0), none⟩, .any),
        (⟨(some 7), .lenS (.tmp 6), none⟩, (.int .i64)),
        (⟨(some 8), .move (.tmp 1), none⟩, .any),
        (⟨(some 9), .lenS (.tmp 8), none⟩, (.int .i64)),
        (⟨(some 10), .bin .neq (.tmp 7) (.tmp 9), none⟩, .bool)]) <|
    .cond (.tmp 10)
      (.seq (.reg [(⟨(some 4), .move (.const (.bool false)), none⟩, .bool)]) <|
      .ret)
      (.skip)) <|
  .seq (.seq (.reg [(⟨(some 11), .move (.tmp 0), none⟩, .any),
        (⟨(some 12), .lenS (.tmp 11), none⟩, (.int .i64)),
        (⟨(some 13), .move (.const (.int .i64 0)), none⟩, (.int .i64))]) <|
    .block 0 <|
      .loop [(13, (.int .i64))] <|
        .seq (.reg [(⟨(some 14), .bin .lss (.tmp 13) (.tmp 12), none⟩, .any)]) <|
        .seq (.cond (.tmp 14)
            (.skip)
            (.exit 0)) <|
        .seq (.block 1 <|
            .seq (.reg [(⟨(some 15), .move (.tmp 13), none⟩, (.int .i64)),
                (⟨(some 5), .move (.tmp 15), none⟩, (.int .i64))]) <|
            .seq (.regd [(⟨0, [], false, ⟨(some 16), .move (.tmp 0), none⟩⟩, .any),
                (⟨1, [], false, ⟨(some 17), .move (.tmp 5), none⟩⟩, (.int .i64)),
                (⟨2, [0, 1], false, ⟨(some 18), .idxSlice 1 (.tmp 16) (.tmp 17), none⟩⟩, .ptr),
                (⟨3, [2, 0, 1], false, ⟨(some 19), .load false 1 (.tmp 18), none⟩⟩, (.int .u64)),
                (⟨4, [], false, ⟨(some 20), .move (.tmp 1), none⟩⟩, .any),
                (⟨5, [], false, ⟨(some 21), .move (.tmp 5), none⟩⟩, (.int .i64)),
                (⟨6, [4, 5], false, ⟨(some 22), .idxSlice 1 (.tmp 20) (.tmp 21), none⟩⟩, .ptr),
                (⟨7, [6, 4, 5], false, ⟨(some 23), .load false 1 (.tmp 22), none⟩⟩, (.int .u64)),
                (⟨8, [3, 7, 2, 0, 1, 6, 4, 5], false, ⟨(some 24), .bin .neq (.tmp 19) (.tmp 23), none⟩⟩, .bool)]) <|
            .cond (.tmp 24)
              (.seq (.reg [(⟨(some 4), .move (.const (.bool false)), none⟩, .bool)]) <|
              .ret)
              (.skip)) <|
        .reg [(⟨(some 25), .bin .add (.tmp 13) (.const (.int .i64 1)), none⟩, (.int .i64)),
          (⟨(some 13), .move (.tmp 25), none⟩, (.int .i64))]) <|
  .seq (.reg [(⟨(some 4), .move (.const (.bool true)), none⟩, .bool)]) <|
  .ret
def f_wicketlaw14_sameTickets_L9 (n : Nat) (u1 : Value) (u0 : Value) (n2 : Nat) (v3 : Int) (h4 : Heap) : Option (((Int × Unit) × Heap) ⊕ ((Bool × Unit) × Heap)) :=
  bif (decide (v3 < (n2 : Int))) then
    ((ixB 1 u0 v3).bind fun q5 =>
    (ldT (.int .u64) h4 (some q5)).bind fun x6 =>
    (ixB 1 u1 v3).bind fun q7 =>
    (ldT (.int .u64) h4 (some q7)).bind fun x8 =>
    bif (!decide (x6 = x8)) then
      (some (.inr ((false, ()), h4)))
    else
      (some (.inl (((IntKind.i64.wrap (v3 + 1)), ()), h4))))
  else
    (some (.inr ((true, ()), h4)))
noncomputable def sf_wicketlaw14_sameTickets (n : Nat) : Sf := sfOf []
noncomputable def it_wicketlaw14_sameTickets (n : Nat) : It := itOf []
def f_wicketlaw14_sameTickets (n : Nat) (u0 : Value) (u1 : Value) (h : Heap) : Option ((Bool × Unit) × Heap) :=
  (lenB u0).bind fun n0 =>
  (lenB u1).bind fun n1 =>
  bif (!decide ((n0 : Int) = (n1 : Int))) then
    (some ((false, ()), h))
  else
    ((lenB u0).bind fun n2 =>
    loopT (fun a => f_wicketlaw14_sameTickets_L9 n u1 u0 n2 a.1.1 a.2) n ((0, ()), h))
def rs_wicketlaw14_sameTickets : Rs := [(.tmp 4, .bool)]
def ps_wicketlaw14_sameTickets : List Ty := [.any, .any]
theorem e_wicketlaw14_sameTickets (n : Nat) (u0 : Value) (u1 : Value) (h : Heap) : f_wicketlaw14_sameTickets n u0 u1 h = fB (sf_wicketlaw14_sameTickets n) (it_wicketlaw14_sameTickets n) n c2_wicketlaw14_sameTickets rs_wicketlaw14_sameTickets ps_wicketlaw14_sameTickets (u0, (u1, ())) h := by kernel_rfl
noncomputable def s_wicketlaw14_sameTickets (n : Nat) : Sf1 := mkSf ps_wicketlaw14_sameTickets rs_wicketlaw14_sameTickets fun a h => f_wicketlaw14_sameTickets n a.1 a.2.1 h

/- wicket/lock.rises -/
def c2_lock_rises : C2 :=
  .seq (.reg [(⟨(some 2), .move (.const (.bool false)), none⟩, .bool)]) <|
  .seq (.cut [] <|
      .seq (.reg [(⟨(some 3), .move (.const (.int .i64 1)), none⟩, (.int .i64))]) <|
      .block 0 <|
        .loop [(3, (.int .i64))] <|
          .seq (.seq (.reg [(⟨(some 4), .move (.tmp 3), none⟩, (.int .i64)),
                (⟨(some 5), .move (.tmp 0), none⟩, .any),
                (⟨(some 6), .lenS (.tmp 5), none⟩, (.int .i64)),
                (⟨(some 7), .bin .lss (.tmp 4) (.tmp 6), none⟩, .bool)]) <|
            .cond (.tmp 7)
              (.skip)
              (.exit 0)) <|
          .seq (.block 1 <|
              .seq (.regd [(⟨0, [], false, ⟨(some 10), .move (.tmp 0), none⟩⟩, .any),
                  (⟨1, [], false, ⟨(some 11), .move (.tmp 3), none⟩⟩, (.int .i64)),
                  (⟨2, [0, 1], false, ⟨(some 12), .idxSlice 1 (.tmp 10) (.tmp 11), none⟩⟩, .ptr),
                  (⟨3, [2, 0, 1], false, ⟨(some 13), .load false 1 (.tmp 12), none⟩⟩, (.int .i64)),
                  (⟨4, [], false, ⟨(some 14), .move (.tmp 0), none⟩⟩, .any),
                  (⟨5, [], false, ⟨(some 15), .move (.tmp 3), none⟩⟩, (.int .i64)),
                  (⟨6, [5], false, ⟨(some 16), .bin .sub (.tmp 15) (.const (.int .i64 1)), none⟩⟩, (.int .i64)),
                  (⟨7, [4, 6, 5], false, ⟨(some 17), .idxSlice 1 (.tmp 14) (.tmp 16), none⟩⟩, .ptr),
                  (⟨8, [7, 4, 6, 5], false, ⟨(some 18), .load false 1 (.tmp 17), none⟩⟩, (.int .i64)),
                  (⟨9, [3, 8, 2, 0, 1, 7, 4, 6, 5], false, ⟨(some 19), .bin .leq (.tmp 13) (.tmp 18), none⟩⟩, .bool)]) <|
              .cond (.tmp 19)
                (.seq (.reg [(⟨(some 2), .move (.const (.bool false)), none⟩, .bool)]) <|
                .ret)
                (.skip)) <|
          .reg [(⟨(some 8), .move (.tmp 3), none⟩, (.int .i64)),
            (⟨(some 9), .bin .add (.tmp 8) (.const (.int .i64 1)), none⟩, (.int .i64)),
            (⟨(some 3), .move (.tmp 9), none⟩, (.int .i64))]) <|
  .seq (.reg [(⟨(some 20), .move (.tmp 0), none⟩, .any),
      (⟨(some 21), .lenS (.tmp 20), none⟩, (.int .i64)),
      (⟨(some 22), .bin .gtr (.tmp 21) (.const (.int .i64 0)), none⟩, .bool),
      (⟨(some 2), .move (.tmp 22), none⟩, .bool)]) <|
  .ret
def f_lock_rises_L8 (n : Nat) (u0 : Value) (v1 : Int) (h2 : Heap) : Option (((Int × Unit) × Heap) ⊕ (((Unit) × Heap) ⊕ ((Bool × Unit) × Heap))) :=
  (lenB u0).bind fun n3 =>
  bif (decide (v1 < (n3 : Int))) then
    ((ixB 1 u0 v1).bind fun q4 =>
    (ldT (.int .i64) h2 (some q4)).bind fun x5 =>
    (ixB 1 u0 (IntKind.i64.wrap (v1 - 1))).bind fun q6 =>
    (ldT (.int .i64) h2 (some q6)).bind fun x7 =>
    bif (decide (x5 ≤ x7)) then
      (some (.inr (.inr ((false, ()), h2))))
    else
      (some (.inl (((IntKind.i64.wrap (v1 + 1)), ()), h2))))
  else
    (some (.inr (.inl ((), h2))))
def f_lock_rises_C9 (n : Nat) (u0 : Value) (h0 : Heap) : Option (((Unit) × Heap) ⊕ ((Bool × Unit) × Heap)) :=
  loopT (fun a => f_lock_rises_L8 n u0 a.1.1 a.2) n ((1, ()), h0)
noncomputable def sf_lock_rises (n : Nat) : Sf := sfOf []
noncomputable def it_lock_rises (n : Nat) : It := itOf []
def f_lock_rises (n : Nat) (u0 : Value) (h : Heap) : Option ((Bool × Unit) × Heap) :=
  thenB (f_lock_rises_C9 n u0 (h)) fun a10 =>
  (lenB u0).bind fun n11 =>
  some (((decide (0 < (n11 : Int))), ()), a10.2)
def rs_lock_rises : Rs := [(.tmp 2, .bool)]
def ps_lock_rises : List Ty := [.any]
theorem e_lock_rises (n : Nat) (u0 : Value) (h : Heap) : f_lock_rises n u0 h = fB (sf_lock_rises n) (it_lock_rises n) n c2_lock_rises rs_lock_rises ps_lock_rises (u0, ()) h := by kernel_rfl
noncomputable def s_lock_rises (n : Nat) : Sf1 := mkSf ps_lock_rises rs_lock_rises fun a h => f_lock_rises n a.1 h

/- (*wicket/ticket.Queue).Put -/
def c2_ticket_Queue_Put : C2 :=
  .seq (.reg [(⟨(some 4), .move (.const (.int .i64 0)), none⟩, (.int .i64))]) <|
  .seq (.block 0 <|
      .seq (.reg [(⟨(some 6), .move (.tmp 0), none⟩, .ptr),
          (⟨(some 7), .eqv false .ptr (.tmp 6) (.const (.pointer none)), none⟩, .bool),
          (⟨(some 5), .move (.tmp 7), none⟩, .bool)]) <|
      .cond (.tmp 5)
        (.seq (.reg [(⟨(some 4), .move (.const (.int .i64 1)), none⟩, (.int .i64))]) <|
        .ret)
        (.seq (.reg [(⟨(some 9), .move (.tmp 1), none⟩, (.int .u64)),
            (⟨(some 10), .move (.tmp 0), none⟩, .ptr),
            (⟨(some 11), .nilCheck (.tmp 10), none⟩, .ptr),
            (⟨(some 12), .fieldAddr 1 (.tmp 11), none⟩, .ptr),
            (⟨(some 13), .load false 1 (.tmp 12), none⟩, (.int .u64)),
            (⟨(some 14), .bin .leq (.tmp 9) (.tmp 13), none⟩, .bool),
            (⟨(some 8), .move (.tmp 14), none⟩, .bool)]) <|
        .cond (.tmp 8)
          (.seq (.reg [(⟨(some 4), .move (.const (.int .i64 110)), none⟩, (.int .i64))]) <|
          .ret)
          (.skip))) <|
  .seq (.reg [(⟨(some 15), .move (.tmp 0), none⟩, .ptr),
      (⟨(some 16), .move (.tmp 0), none⟩, .ptr),
      (⟨(some 17), .nilCheck (.tmp 16), none⟩, .ptr),
      (⟨(some 18), .fieldAddr 0 (.tmp 17), none⟩, .ptr),
      (⟨(some 19), .load false 1 (.tmp 18), none⟩, .any),
      (⟨(some 20), .move (.tmp 1), none⟩, (.int .u64)),
      (⟨(some 21), .buildSlice 1 1 [(.int .u64 0)] [(0, 1, (.tmp 20))], none⟩, .any),
      (⟨(some 22), .append 8 1 (.tmp 19) (.tmp 21), none⟩, .any),
      (⟨(some 23), .nilCheck (.tmp 15), none⟩, .ptr),
      (⟨(some 24), .fieldAddr 0 (.tmp 23), none⟩, .ptr),
      (⟨none, .store 1 (.tmp 24) (.tmp 22), none⟩, .any)]) <|
  .seq (.reg [(⟨(some 25), .move (.tmp 0), none⟩, .ptr),
      (⟨(some 26), .move (.tmp 1), none⟩, (.int .u64)),
      (⟨(some 27), .nilCheck (.tmp 25), none⟩, .ptr),
      (⟨(some 28), .fieldAddr 1 (.tmp 27), none⟩, .ptr),
      (⟨none, .store 1 (.tmp 28) (.tmp 26), none⟩, .any)]) <|
  .seq (.reg [(⟨(some 4), .move (.const (.int .i64 0)), none⟩, (.int .i64))]) <|
  .ret
noncomputable def sf_ticket_Queue_Put (n : Nat) : Sf := sfOf []
noncomputable def it_ticket_Queue_Put (n : Nat) : It := itOf []
def f_ticket_Queue_Put (n : Nat) (u0 : Option Addr) (u1 : Int) (h : Heap) : Option ((Int × Unit) × Heap) :=
  bif (Option.isNone u0) then
    (some ((1, ()), h))
  else
    ((u0).bind fun q0 =>
    (ldT (.int .u64) h (some (fa q0 1))).bind fun x1 =>
    bif (decide (u1 ≤ x1)) then
      (some ((110, ()), h))
    else
      ((u0).bind fun q2 =>
      (ldT .any h (some (fa q2 0))).bind fun x3 =>
      (fillL [(.int .u64 0)] [(0, 1, (.int .u64 u1))]).bind fun cs4 =>
      bnd ((Heap.new h (.cells cs4 false 1))) fun h5 =>
      (appendK h5 8 1 x3 (.slice (some ⟨Heap.next h, 0, some 0⟩) 1 1)).bind fun p6 =>
      (u0).bind fun q7 =>
      (stB 1 p6.1 p6.2 (some (fa q7 0))).bind fun h8 =>
      (u0).bind fun q9 =>
      (stB 1 (.int .u64 u1) h8 (some (fa q9 1))).bind fun h10 =>
      some ((0, ()), h10)))
def rs_ticket_Queue_Put : Rs := [(.tmp 4, (.int .i64))]
def ps_ticket_Queue_Put : List Ty := [.ptr, (.int .u64)]
theorem e_ticket_Queue_Put (n : Nat) (u0 : Option Addr) (u1 : Int) (h : Heap) : f_ticket_Queue_Put n u0 u1 h = fB (sf_ticket_Queue_Put n) (it_ticket_Queue_Put n) n c2_ticket_Queue_Put rs_ticket_Queue_Put ps_ticket_Queue_Put (u0, (u1, ())) h := by kernel_rfl
noncomputable def s_ticket_Queue_Put (n : Nat) : Sf1 := mkSf ps_ticket_Queue_Put rs_ticket_Queue_Put fun a h => f_ticket_Queue_Put n a.1 a.2.1 h

/- slices.Clone[[]int,int] -/
def c2_slices_Clone_int_int : C2 :=
  .seq (.reg [(⟨(some 2), .move (.const (.slice none 0 0)), none⟩, .any)]) <|
  .seq (.seq (.reg [(⟨(some 3), .move (.tmp 0), none⟩, .any),
        (⟨(some 4), .eqv false .slice (.tmp 3) (.const (.slice none 0 0)), none⟩, .bool)]) <|
    .cond (.tmp 4)
      (.seq (.reg [(⟨(some 2), .move (.const (.slice none 0 0)), none⟩, .any)]) <|
      .ret)
      (.skip)) <|
  .seq (.reg [(⟨(some 5), .buildSlice 0 1 [] [], none⟩, .any),
      (⟨(some 6), .move (.tmp 0), none⟩, .any),
      (⟨(some 7), .append 8 1 (.tmp 5) (.tmp 6), none⟩, .any),
      (⟨(some 2), .move (.tmp 7), none⟩, .any)]) <|
  .ret
noncomputable def sf_slices_Clone_int_int (n : Nat) : Sf := sfOf []
noncomputable def it_slices_Clone_int_int (n : Nat) : It := itOf []
def f_slices_Clone_int_int (n : Nat) (u0 : Value) (h : Heap) : Option ((Value × Unit) × Heap) :=
  (eqVals h .slice u0 (.slice none 0 0)).bind fun b0 =>
  bif b0 then
    (some (((.slice none 0 0), ()), h))
  else
    ((fillL [] []).bind fun cs1 =>
    bnd ((Heap.new h (.cells cs1 false 1))) fun h2 =>
    (appendK h2 8 1 (.slice (some ⟨Heap.next h, 0, some 0⟩) 0 0) u0).bind fun p3 =>
    bif !isTuple p3.1 then
      (some ((p3.1, ()), p3.2))
    else
      (none))
def rs_slices_Clone_int_int : Rs := [(.tmp 2, .any)]
def ps_slices_Clone_int_int : List Ty := [.any]
theorem e_slices_Clone_int_int (n : Nat) (u0 : Value) (h : Heap) : f_slices_Clone_int_int n u0 h = fB (sf_slices_Clone_int_int n) (it_slices_Clone_int_int n) n c2_slices_Clone_int_int rs_slices_Clone_int_int ps_slices_Clone_int_int (u0, ()) h := by kernel_rfl
noncomputable def s_slices_Clone_int_int (n : Nat) : Sf1 := mkSf ps_slices_Clone_int_int rs_slices_Clone_int_int fun a h => f_slices_Clone_int_int n a.1 h

/- wicket/blocks.Next -/
def c2_blocks_Next : C2 :=
  .seq (.reg [(⟨(some 4), .move (.const (.int .i64 0)), none⟩, (.int .i64)),
      (⟨(some 5), .move (.const (.bool false)), none⟩, .bool)]) <|
  .seq (.seq (.cutn [(13, .bool)] <|
        .reg [(⟨(some 6), .move (.tmp 1), none⟩, (.int .i64)),
          (⟨(some 7), .bin .lss (.tmp 6) (.const (.int .i64 0)), none⟩, .bool),
          (⟨(some 8), .move (.tmp 7), none⟩, .bool),
          (⟨(some 9), .move (.tmp 1), some (8, false)⟩, (.int .i64)),
          (⟨(some 10), .move (.tmp 0), some (8, false)⟩, .any),
          (⟨(some 11), .lenS (.tmp 10), some (8, false)⟩, (.int .i64)),
          (⟨(some 12), .bin .geq (.tmp 9) (.tmp 11), some (8, false)⟩, .bool),
          (⟨(some 13), .pick (.tmp 8) (.const (.bool true)) (.tmp 12), none⟩, .bool)]) <|
    .cond (.tmp 13)
      (.seq (.reg [(⟨(some 4), .move (.const (.int .i64 0)), none⟩, (.int .i64)),
          (⟨(some 5), .move (.const (.bool false)), none⟩, .bool)]) <|
      .ret)
      (.skip)) <|
  .seq (.reg [(⟨(some 14), .move (.tmp 0), none⟩, .any),
      (⟨(some 15), .move (.tmp 1), none⟩, (.int .i64)),
      (⟨(some 16), .idxSlice 1 (.tmp 14) (.tmp 15), none⟩, .ptr),
      (⟨(some 17), .load false 1 (.tmp 16), none⟩, (.int .i64)),
      (⟨(some 4), .move (.tmp 17), none⟩, (.int .i64)),
      (⟨(some 5), .move (.const (.bool true)), none⟩, .bool)]) <|
  .ret
noncomputable def sf_blocks_Next (n : Nat) : Sf := sfOf []
noncomputable def it_blocks_Next (n : Nat) : It := itOf []
def f_blocks_Next (n : Nat) (u0 : Value) (u1 : Int) (h : Heap) : Option ((Int × Bool × Unit) × Heap) :=
  ((bif (decide (u1 < 0)) then
      (some ((true, ()), h))
    else
      ((lenB u0).bind fun n0 =>
      some (((decide ((n0 : Int) ≤ u1)), ()), h))) : Option ((Bool × Unit) × Heap)).bind fun a1 =>
  bif a1.1.1 then
    (some ((0, (false, ())), a1.2))
  else
    ((ixB 1 u0 u1).bind fun q2 =>
    (ldT (.int .i64) a1.2 (some q2)).bind fun x3 =>
    some ((x3, (true, ())), a1.2))
def rs_blocks_Next : Rs := [(.tmp 4, (.int .i64)), (.tmp 5, .bool)]
def ps_blocks_Next : List Ty := [.any, (.int .i64)]
theorem e_blocks_Next (n : Nat) (u0 : Value) (u1 : Int) (h : Heap) : f_blocks_Next n u0 u1 h = fB (sf_blocks_Next n) (it_blocks_Next n) n c2_blocks_Next rs_blocks_Next ps_blocks_Next (u0, (u1, ())) h := by kernel_rfl
noncomputable def s_blocks_Next (n : Nat) : Sf1 := mkSf ps_blocks_Next rs_blocks_Next fun a h => f_blocks_Next n a.1 a.2.1 h

/- wicket/wicketlaw14.sameInts -/
def c2_wicketlaw14_sameInts : C2 :=
  .seq (.reg [(⟨(some 4), .move (.const (.bool false)), none⟩, .bool)]) <|
  .seq (.seq (.reg [(⟨(some 6), .move (.tmp 0), none⟩, .any),
        (⟨(some 7), .lenS (.tmp 6), none⟩, (.int .i64)),
        (⟨(some 8), .move (.tmp 1), none⟩, .any),
        (⟨(some 9), .lenS (.tmp 8), none⟩, (.int .i64)),
        (⟨(some 10), .bin .neq (.tmp 7) (.tmp 9), none⟩, .bool)]) <|
    .cond (.tmp 10)
      (.seq (.reg [(⟨(some 4), .move (.const (.bool false)), none⟩, .bool)]) <|
      .ret)
      (.skip)) <|
  .seq (.seq (.reg [(⟨(some 11), .move (.tmp 0), none⟩, .any),
        (⟨(some 12), .lenS (.tmp 11), none⟩, (.int .i64)),
        (⟨(some 13), .move (.const (.int .i64 0)), none⟩, (.int .i64))]) <|
    .block 0 <|
      .loop [(13, (.int .i64))] <|
        .seq (.reg [(⟨(some 14), .bin .lss (.tmp 13) (.tmp 12), none⟩, .any)]) <|
        .seq (.cond (.tmp 14)
            (.skip)
            (.exit 0)) <|
        .seq (.block 1 <|
            .seq (.reg [(⟨(some 15), .move (.tmp 13), none⟩, (.int .i64)),
                (⟨(some 5), .move (.tmp 15), none⟩, (.int .i64))]) <|
            .seq (.regd [(⟨0, [], false, ⟨(some 16), .move (.tmp 0), none⟩⟩, .any),
                (⟨1, [], false, ⟨(some 17), .move (.tmp 5), none⟩⟩, (.int .i64)),
                (⟨2, [0, 1], false, ⟨(some 18), .idxSlice 1 (.tmp 16) (.tmp 17), none⟩⟩, .ptr),
                (⟨3, [2, 0, 1], false, ⟨(some 19), .load false 1 (.tmp 18), none⟩⟩, (.int .i64)),
                (⟨4, [], false, ⟨(some 20), .move (.tmp 1), none⟩⟩, .any),
                (⟨5, [], false, ⟨(some 21), .move (.tmp 5), none⟩⟩, (.int .i64)),
                (⟨6, [4, 5], false, ⟨(some 22), .idxSlice 1 (.tmp 20) (.tmp 21), none⟩⟩, .ptr),
                (⟨7, [6, 4, 5], false, ⟨(some 23), .load false 1 (.tmp 22), none⟩⟩, (.int .i64)),
                (⟨8, [3, 7, 2, 0, 1, 6, 4, 5], false, ⟨(some 24), .bin .neq (.tmp 19) (.tmp 23), none⟩⟩, .bool)]) <|
            .cond (.tmp 24)
              (.seq (.reg [(⟨(some 4), .move (.const (.bool false)), none⟩, .bool)]) <|
              .ret)
              (.skip)) <|
        .reg [(⟨(some 25), .bin .add (.tmp 13) (.const (.int .i64 1)), none⟩, (.int .i64)),
          (⟨(some 13), .move (.tmp 25), none⟩, (.int .i64))]) <|
  .seq (.reg [(⟨(some 4), .move (.const (.bool true)), none⟩, .bool)]) <|
  .ret
def f_wicketlaw14_sameInts_L9 (n : Nat) (u1 : Value) (u0 : Value) (n2 : Nat) (v3 : Int) (h4 : Heap) : Option (((Int × Unit) × Heap) ⊕ ((Bool × Unit) × Heap)) :=
  bif (decide (v3 < (n2 : Int))) then
    ((ixB 1 u0 v3).bind fun q5 =>
    (ldT (.int .i64) h4 (some q5)).bind fun x6 =>
    (ixB 1 u1 v3).bind fun q7 =>
    (ldT (.int .i64) h4 (some q7)).bind fun x8 =>
    bif (!decide (x6 = x8)) then
      (some (.inr ((false, ()), h4)))
    else
      (some (.inl (((IntKind.i64.wrap (v3 + 1)), ()), h4))))
  else
    (some (.inr ((true, ()), h4)))
noncomputable def sf_wicketlaw14_sameInts (n : Nat) : Sf := sfOf []
noncomputable def it_wicketlaw14_sameInts (n : Nat) : It := itOf []
def f_wicketlaw14_sameInts (n : Nat) (u0 : Value) (u1 : Value) (h : Heap) : Option ((Bool × Unit) × Heap) :=
  (lenB u0).bind fun n0 =>
  (lenB u1).bind fun n1 =>
  bif (!decide ((n0 : Int) = (n1 : Int))) then
    (some ((false, ()), h))
  else
    ((lenB u0).bind fun n2 =>
    loopT (fun a => f_wicketlaw14_sameInts_L9 n u1 u0 n2 a.1.1 a.2) n ((0, ()), h))
def rs_wicketlaw14_sameInts : Rs := [(.tmp 4, .bool)]
def ps_wicketlaw14_sameInts : List Ty := [.any, .any]
theorem e_wicketlaw14_sameInts (n : Nat) (u0 : Value) (u1 : Value) (h : Heap) : f_wicketlaw14_sameInts n u0 u1 h = fB (sf_wicketlaw14_sameInts n) (it_wicketlaw14_sameInts n) n c2_wicketlaw14_sameInts rs_wicketlaw14_sameInts ps_wicketlaw14_sameInts (u0, (u1, ())) h := by kernel_rfl
noncomputable def s_wicketlaw14_sameInts (n : Nat) : Sf1 := mkSf ps_wicketlaw14_sameInts rs_wicketlaw14_sameInts fun a h => f_wicketlaw14_sameInts n a.1 a.2.1 h

/- (*wicket/lock.Locks).Held -/
def c2_lock_Locks_Held : C2 :=
  .seq (.reg [(⟨(some 4), .move (.const (.slice none 0 0)), none⟩, .any)]) <|
  .seq (.seq (.reg [(⟨(some 6), .move (.tmp 0), none⟩, .ptr),
        (⟨(some 7), .eqv false .ptr (.tmp 6) (.const (.pointer none)), none⟩, .bool)]) <|
    .cond (.tmp 7)
      (.seq (.reg [(⟨(some 4), .move (.const (.slice none 0 0)), none⟩, .any)]) <|
      .ret)
      (.skip)) <|
  .seq (.reg [(⟨(some 8), .move (.tmp 0), none⟩, .ptr),
      (⟨(some 9), .nilCheck (.tmp 8), none⟩, .ptr),
      (⟨(some 10), .fieldAddr 2 (.tmp 9), none⟩, .ptr),
      (⟨(some 11), .load false 1 (.tmp 10), none⟩, .any),
      (⟨(some 12), .move (.tmp 1), none⟩, (.int .u64)),
      (⟨(some 13), .lookup .u64 (.agg ⟨[(.slice none 0 0), (.int .i64 0)]⟩) (.tmp 11) (.tmp 12) false, none⟩, .any),
      (⟨(some 5), .alloc [(.slice none 0 0), (.int .i64 0)], none⟩, .ptr),
      (⟨none, .store 2 (.tmp 5) (.tmp 13), none⟩, .any)]) <|
  .seq (.reg [(⟨(some 14), .fieldAddr 0 (.tmp 5), none⟩, .ptr),
      (⟨(some 15), .load false 1 (.tmp 14), none⟩, .any),
      (⟨(some 16), .fieldAddr 1 (.tmp 5), none⟩, .ptr),
      (⟨(some 17), .load false 1 (.tmp 16), none⟩, (.int .i64)),
      (⟨(some 18), .slice 1 (.tmp 15) none (some (.tmp 17)) none, none⟩, .any),
      (⟨(some 19), .call k_slices_Clone_int_int [(.tmp 18)], none⟩, .any),
      (⟨(some 4), .move (.tmp 19), none⟩, .any)]) <|
  .ret
noncomputable def sf_lock_Locks_Held (n : Nat) : Sf := sfOf [(k_slices_Clone_int_int, s_slices_Clone_int_int n)]
noncomputable def it_lock_Locks_Held (n : Nat) : It := itOf []
def f_lock_Locks_Held (n : Nat) (u0 : Option Addr) (u1 : Int) (h : Heap) : Option ((Value × Unit) × Heap) :=
  bif (Option.isNone u0) then
    (some (((.slice none 0 0), ()), h))
  else
    ((u0).bind fun q0 =>
    (ldT .any h (some (fa q0 2))).bind fun x1 =>
    (lkT .any h .u64 (.agg ⟨[(.slice none 0 0), (.int .i64 0)]⟩) x1 u1).bind fun p2 =>
    bnd ((Heap.new h (.cells [(.slice none 0 0), (.int .i64 0)] false 0))) fun h3 =>
    (stB 2 p2.1 h3 (some (nwA h))).bind fun h4 =>
    (ldT .any h4 (some (fa (nwA h) 0))).bind fun x5 =>
    (ldT (.int .i64) h4 (some (fa (nwA h) 1))).bind fun x6 =>
    (sliceK h4 1 none (some (.int .i64 x6)) none x5).bind fun p7 =>
    (f_slices_Clone_int_int n p7.1 h4).bind fun p8 =>
    bif !isTuple p8.1.1 then
      (some ((p8.1.1, ()), p8.2))
    else
      (none))
def rs_lock_Locks_Held : Rs := [(.tmp 4, .any)]
def ps_lock_Locks_Held : List Ty := [.ptr, (.int .u64)]
theorem e_lock_Locks_Held (n : Nat) (u0 : Option Addr) (u1 : Int) (h : Heap) : f_lock_Locks_Held n u0 u1 h = fB (sf_lock_Locks_Held n) (it_lock_Locks_Held n) n c2_lock_Locks_Held rs_lock_Locks_Held ps_lock_Locks_Held (u0, (u1, ())) h := by kernel_rfl
noncomputable def s_lock_Locks_Held (n : Nat) : Sf1 := mkSf ps_lock_Locks_Held rs_lock_Locks_Held fun a h => f_lock_Locks_Held n a.1 a.2.1 h

/- (*wicket/lock.Locks).Next -/
def c2_lock_Locks_Next : C2 :=
  .seq (.reg [(⟨(some 4), .move (.const (.int .i64 0)), none⟩, (.int .i64)),
      (⟨(some 5), .move (.const (.bool false)), none⟩, .bool)]) <|
  .seq (.seq (.reg [(⟨(some 7), .move (.tmp 0), none⟩, .ptr),
        (⟨(some 8), .eqv false .ptr (.tmp 7) (.const (.pointer none)), none⟩, .bool)]) <|
    .cond (.tmp 8)
      (.seq (.reg [(⟨(some 4), .move (.const (.int .i64 0)), none⟩, (.int .i64)),
          (⟨(some 5), .move (.const (.bool false)), none⟩, .bool)]) <|
      .ret)
      (.skip)) <|
  .seq (.reg [(⟨(some 9), .move (.tmp 0), none⟩, .ptr),
      (⟨(some 10), .nilCheck (.tmp 9), none⟩, .ptr),
      (⟨(some 11), .fieldAddr 2 (.tmp 10), none⟩, .ptr),
      (⟨(some 12), .load false 1 (.tmp 11), none⟩, .any),
      (⟨(some 13), .move (.tmp 1), none⟩, (.int .u64)),
      (⟨(some 14), .lookup .u64 (.agg ⟨[(.slice none 0 0), (.int .i64 0)]⟩) (.tmp 12) (.tmp 13) false, none⟩, .any),
      (⟨(some 6), .alloc [(.slice none 0 0), (.int .i64 0)], none⟩, .ptr),
      (⟨none, .store 2 (.tmp 6) (.tmp 14), none⟩, .any)]) <|
  .seq (.reg [(⟨(some 15), .fieldAddr 0 (.tmp 6), none⟩, .ptr),
      (⟨(some 16), .load false 1 (.tmp 15), none⟩, .any),
      (⟨(some 17), .fieldAddr 1 (.tmp 6), none⟩, .ptr),
      (⟨(some 18), .load false 1 (.tmp 17), none⟩, (.int .i64)),
      (⟨(some 19), .call k_blocks_Next [(.tmp 16), (.tmp 18)], none⟩, .any),
      (⟨(some 20), .extract (.tmp 19) 0, none⟩, (.int .i64)),
      (⟨(some 21), .extract (.tmp 19) 1, none⟩, .bool),
      (⟨(some 4), .move (.tmp 20), none⟩, (.int .i64)),
      (⟨(some 5), .move (.tmp 21), none⟩, .bool)]) <|
  .ret
noncomputable def sf_lock_Locks_Next (n : Nat) : Sf := sfOf [(k_blocks_Next, s_blocks_Next n)]
noncomputable def it_lock_Locks_Next (n : Nat) : It := itOf []
def f_lock_Locks_Next (n : Nat) (u0 : Option Addr) (u1 : Int) (h : Heap) : Option ((Int × Bool × Unit) × Heap) :=
  bif (Option.isNone u0) then
    (some ((0, (false, ())), h))
  else
    ((u0).bind fun q0 =>
    (ldT .any h (some (fa q0 2))).bind fun x1 =>
    (lkT .any h .u64 (.agg ⟨[(.slice none 0 0), (.int .i64 0)]⟩) x1 u1).bind fun p2 =>
    bnd ((Heap.new h (.cells [(.slice none 0 0), (.int .i64 0)] false 0))) fun h3 =>
    (stB 2 p2.1 h3 (some (nwA h))).bind fun h4 =>
    (ldT .any h4 (some (fa (nwA h) 0))).bind fun x5 =>
    (ldT (.int .i64) h4 (some (fa (nwA h) 1))).bind fun x6 =>
    (f_blocks_Next n x5 x6 h4).bind fun p7 =>
    some ((p7.1.1, (p7.1.2.1, ())), p7.2))
def rs_lock_Locks_Next : Rs := [(.tmp 4, (.int .i64)), (.tmp 5, .bool)]
def ps_lock_Locks_Next : List Ty := [.ptr, (.int .u64)]
theorem e_lock_Locks_Next (n : Nat) (u0 : Option Addr) (u1 : Int) (h : Heap) : f_lock_Locks_Next n u0 u1 h = fB (sf_lock_Locks_Next n) (it_lock_Locks_Next n) n c2_lock_Locks_Next rs_lock_Locks_Next ps_lock_Locks_Next (u0, (u1, ())) h := by kernel_rfl
noncomputable def s_lock_Locks_Next (n : Nat) : Sf1 := mkSf ps_lock_Locks_Next rs_lock_Locks_Next fun a h => f_lock_Locks_Next n a.1 a.2.1 h

/- slices.Delete[[]uint64,uint64] -/
def c2_slices_Delete_uint64_uint64 : C2 :=
  .seq (.reg [(⟨(some 6), .move (.const (.slice none 0 0)), none⟩, .any)]) <|
  .seq (.reg [(⟨(some 8), .move (.tmp 0), none⟩, .any),
      (⟨(some 9), .move (.tmp 1), none⟩, (.int .i64)),
      (⟨(some 10), .move (.tmp 2), none⟩, (.int .i64)),
      (⟨(some 11), .move (.tmp 0), none⟩, .any),
      (⟨(some 12), .lenS (.tmp 11), none⟩, (.int .i64)),
      (⟨(some 13), .slice 1 (.tmp 8) (some (.tmp 9)) (some (.tmp 10)) (some (.tmp 12)), none⟩, .any)]) <|
  .seq (.seq (.reg [(⟨(some 14), .move (.tmp 1), none⟩, (.int .i64)),
        (⟨(some 15), .move (.tmp 2), none⟩, (.int .i64)),
        (⟨(some 16), .bin .eql (.tmp 14) (.tmp 15), none⟩, .bool)]) <|
    .cond (.tmp 16)
      (.seq (.reg [(⟨(some 17), .move (.tmp 0), none⟩, .any),
          (⟨(some 6), .move (.tmp 17), none⟩, .any)]) <|
      .ret)
      (.skip)) <|
  .seq (.reg [(⟨(some 18), .move (.tmp 0), none⟩, .any),
      (⟨(some 19), .lenS (.tmp 18), none⟩, (.int .i64)),
      (⟨(some 7), .move (.tmp 19), none⟩, (.int .i64))]) <|
  .seq (.regd [(⟨0, [], false, ⟨(some 20), .move (.tmp 0), none⟩⟩, .any),
      (⟨1, [], false, ⟨(some 21), .move (.tmp 1), none⟩⟩, (.int .i64)),
      (⟨2, [0, 1], false, ⟨(some 22), .slice 1 (.tmp 20) none (some (.tmp 21)) none, none⟩⟩, .any),
      (⟨3, [], false, ⟨(some 23), .move (.tmp 0), none⟩⟩, .any),
      (⟨4, [], false, ⟨(some 24), .move (.tmp 2), none⟩⟩, (.int .i64)),
      (⟨5, [3, 4], false, ⟨(some 25), .slice 1 (.tmp 23) (some (.tmp 24)) none none, none⟩⟩, .any),
      (⟨6, [2, 5, 0, 1, 3, 4], true, ⟨(some 26), .append 8 1 (.tmp 22) (.tmp 25), none⟩⟩, .any),
      (⟨7, [6, 0, 1, 2, 3, 4, 5], true, ⟨(some 0), .move (.tmp 26), none⟩⟩, .any)]) <|
  .seq (.reg [(⟨(some 27), .move (.tmp 0), none⟩, .any),
      (⟨(some 28), .move (.tmp 0), none⟩, .any),
      (⟨(some 29), .lenS (.tmp 28), none⟩, (.int .i64)),
      (⟨(some 30), .move (.tmp 7), none⟩, (.int .i64)),
      (⟨(some 31), .slice 1 (.tmp 27) (some (.tmp 29)) (some (.tmp 30)) none, none⟩, .any),
      (⟨none, .clear [(.int .u64 0)] (.tmp 31), none⟩, .any)]) <|
  .seq (.reg [(⟨(some 32), .move (.tmp 0), none⟩, .any),
      (⟨(some 6), .move (.tmp 32), none⟩, .any)]) <|
  .ret
noncomputable def sf_slices_Delete_uint64_uint64 (n : Nat) : Sf := sfOf []
noncomputable def it_slices_Delete_uint64_uint64 (n : Nat) : It := itOf []
def f_slices_Delete_uint64_uint64 (n : Nat) (u0 : Value) (u1 : Int) (u2 : Int) (h : Heap) : Option ((Value × Unit) × Heap) :=
  (lenB u0).bind fun n0 =>
  (sliceK h 1 (some (.int .i64 u1)) (some (.int .i64 u2)) (some (.int .i64 (n0 : Int))) u0).bind fun p1 =>
  bif (decide (u1 = u2)) then
    (bif !isTuple u0 then
      (some ((u0, ()), h))
    else
      (none))
  else
    ((lenB u0).bind fun n2 =>
    (sliceK h 1 none (some (.int .i64 u1)) none u0).bind fun p3 =>
    (sliceK h 1 (some (.int .i64 u2)) none none u0).bind fun p4 =>
    (appendK h 8 1 p3.1 p4.1).bind fun p5 =>
    (lenB p5.1).bind fun n6 =>
    (sliceK p5.2 1 (some (.int .i64 (n6 : Int))) (some (.int .i64 (n2 : Int))) none p5.1).bind fun p7 =>
    (clearK p5.2 [(.int .u64 0)] p7.1).bind fun p8 =>
    bif !isTuple p5.1 then
      (some ((p5.1, ()), p8.2))
    else
      (none))
def rs_slices_Delete_uint64_uint64 : Rs := [(.tmp 6, .any)]
def ps_slices_Delete_uint64_uint64 : List Ty := [.any, (.int .i64), (.int .i64)]
theorem e_slices_Delete_uint64_uint64 (n : Nat) (u0 : Value) (u1 : Int) (u2 : Int) (h : Heap) : f_slices_Delete_uint64_uint64 n u0 u1 u2 h = fB (sf_slices_Delete_uint64_uint64 n) (it_slices_Delete_uint64_uint64 n) n c2_slices_Delete_uint64_uint64 rs_slices_Delete_uint64_uint64 ps_slices_Delete_uint64_uint64 (u0, (u1, (u2, ()))) h := by kernel_rfl
noncomputable def s_slices_Delete_uint64_uint64 (n : Nat) : Sf1 := mkSf ps_slices_Delete_uint64_uint64 rs_slices_Delete_uint64_uint64 fun a h => f_slices_Delete_uint64_uint64 n a.1 a.2.1 a.2.2.1 h

/- (*wicket/ticket.Queue).Len -/
def c2_ticket_Queue_Len : C2 :=
  .seq (.reg [(⟨(some 2), .move (.const (.int .i64 0)), none⟩, (.int .i64))]) <|
  .seq (.seq (.reg [(⟨(some 3), .move (.tmp 0), none⟩, .ptr),
        (⟨(some 4), .eqv false .ptr (.tmp 3) (.const (.pointer none)), none⟩, .bool)]) <|
    .cond (.tmp 4)
      (.seq (.reg [(⟨(some 2), .move (.const (.int .i64 0)), none⟩, (.int .i64))]) <|
      .ret)
      (.skip)) <|
  .seq (.reg [(⟨(some 5), .move (.tmp 0), none⟩, .ptr),
      (⟨(some 6), .nilCheck (.tmp 5), none⟩, .ptr),
      (⟨(some 7), .fieldAddr 0 (.tmp 6), none⟩, .ptr),
      (⟨(some 8), .load false 1 (.tmp 7), none⟩, .any),
      (⟨(some 9), .lenS (.tmp 8), none⟩, (.int .i64)),
      (⟨(some 2), .move (.tmp 9), none⟩, (.int .i64))]) <|
  .ret
noncomputable def sf_ticket_Queue_Len (n : Nat) : Sf := sfOf []
noncomputable def it_ticket_Queue_Len (n : Nat) : It := itOf []
def f_ticket_Queue_Len (n : Nat) (u0 : Option Addr) (h : Heap) : Option ((Int × Unit) × Heap) :=
  bif (Option.isNone u0) then
    (some ((0, ()), h))
  else
    ((u0).bind fun q0 =>
    (ldT .any h (some (fa q0 0))).bind fun x1 =>
    (lenB x1).bind fun n2 =>
    some (((n2 : Int), ()), h))
def rs_ticket_Queue_Len : Rs := [(.tmp 2, (.int .i64))]
def ps_ticket_Queue_Len : List Ty := [.ptr]
theorem e_ticket_Queue_Len (n : Nat) (u0 : Option Addr) (h : Heap) : f_ticket_Queue_Len n u0 h = fB (sf_ticket_Queue_Len n) (it_ticket_Queue_Len n) n c2_ticket_Queue_Len rs_ticket_Queue_Len ps_ticket_Queue_Len (u0, ()) h := by kernel_rfl
noncomputable def s_ticket_Queue_Len (n : Nat) : Sf1 := mkSf ps_ticket_Queue_Len rs_ticket_Queue_Len fun a h => f_ticket_Queue_Len n a.1 h

/- (*wicket/ticket.Queue).All$1 -/
def c2_ticket_Queue_All_1 : C2 :=
  .seq (.seq (.reg [(⟨(some 5), .load false 1 (.tmp 1), none⟩, .ptr),
        (⟨(some 6), .eqv false .ptr (.tmp 5) (.const (.pointer none)), none⟩, .bool)]) <|
    .cond (.tmp 6)
      (.ret)
      (.skip)) <|
  .seq (.reg [(⟨(some 7), .load false 1 (.tmp 1), none⟩, .ptr),
      (⟨(some 8), .nilCheck (.tmp 7), none⟩, .ptr),
      (⟨(some 9), .fieldAddr 0 (.tmp 8), none⟩, .ptr),
      (⟨(some 10), .load false 1 (.tmp 9), none⟩, .any),
      (⟨(some 11), .lenS (.tmp 10), none⟩, (.int .i64)),
      (⟨(some 12), .move (.const (.int .i64 0)), none⟩, (.int .i64))]) <|
  .block 0 <|
    .loop [(12, (.int .i64))] <|
      .seq (.reg [(⟨(some 13), .bin .lss (.tmp 12) (.tmp 11), none⟩, .any)]) <|
      .seq (.cond (.tmp 13)
          (.skip)
          (.exit 0)) <|
      .seq (.block 1 <|
          .seq (.reg [(⟨(some 14), .idxSlice 1 (.tmp 10) (.tmp 12), none⟩, .ptr),
              (⟨(some 15), .load false 1 (.tmp 14), none⟩, (.int .u64)),
              (⟨(some 4), .move (.tmp 15), none⟩, (.int .u64))]) <|
          .seq (.reg [(⟨(some 16), .move (.tmp 0), none⟩, .any),
              (⟨(some 17), .move (.tmp 4), none⟩, (.int .u64)),
              (⟨(some 18), .callv (.tmp 16) [(.tmp 17)], none⟩, .bool),
              (⟨(some 19), .un .not (.tmp 18), none⟩, .bool)]) <|
          .cond (.tmp 19)
            (.ret)
            (.skip)) <|
      .reg [(⟨(some 20), .bin .add (.tmp 12) (.const (.int .i64 1)), none⟩, (.int .i64)),
        (⟨(some 12), .move (.tmp 20), none⟩, (.int .i64))]
def f_ticket_Queue_All_1_L10 {V : Type} (hp : V → Heap) (up : V → Heap → V) (y : (Int × Unit) → V → Option (Bool × V)) (n : Nat) (x3 : Value) (n4 : Nat) (v5 : Int) (w6 : V) : Option (((Int × Unit) × V) ⊕ (V)) :=
  bif (decide (v5 < (n4 : Int))) then
    ((ixB 1 x3 v5).bind fun q7 =>
    (ldT (.int .u64) (hp w6) (some q7)).bind fun x8 =>
    (y (x8, ()) w6).bind fun p9 =>
    bif (!p9.1) then
      (some (.inr p9.2))
    else
      (some (.inl (((IntKind.i64.wrap (v5 + 1)), ()), p9.2))))
  else
    (some (.inr w6))
noncomputable def sf_ticket_Queue_All_1 (n : Nat) : Sf := sfOf []
noncomputable def it_ticket_Queue_All_1 (n : Nat) : It := itOf []
def f_ticket_Queue_All_1 {V : Type} (hp : V → Heap) (up : V → Heap → V) (y : (Int × Unit) → V → Option (Bool × V)) (n : Nat) (u0 : Option Addr) (w : V) : Option V :=
  (ldT .ptr (hp w) u0).bind fun x0 =>
  bif (Option.isNone x0) then
    (some w)
  else
    ((ldT .ptr (hp w) u0).bind fun x1 =>
    (x1).bind fun q2 =>
    (ldT .any (hp w) (some (fa q2 0))).bind fun x3 =>
    (lenB x3).bind fun n4 =>
    loopT (fun a => f_ticket_Queue_All_1_L10 hp up y n x3 n4 a.1.1 a.2) n ((0, ()), w))
theorem e_ticket_Queue_All_1 {V : Type} (hp : V → Heap) (up : V → Heap → V) (y : (Int × Unit) → V → Option (Bool × V)) (n : Nat) (u0 : Option Addr) (w : V) : f_ticket_Queue_All_1 hp up y n u0 w = fI (sf_ticket_Queue_All_1 n) (it_ticket_Queue_All_1 n) n c2_ticket_Queue_All_1 [] [.ptr] [(.int .u64)] hp up y () (u0, ()) w := by kernel_rfl
noncomputable def i_ticket_Queue_All_1 (n : Nat) : It1 := mkIt [] [.ptr] [(.int .u64)] fun hp up y _ a2 v => f_ticket_Queue_All_1 hp up y n a2.1 v

/- slices.Index[[]int,int] -/
def c2_slices_Index_int_int : C2 :=
  .seq (.reg [(⟨(some 4), .move (.const (.int .i64 0)), none⟩, (.int .i64))]) <|
  .seq (.seq (.reg [(⟨(some 6), .move (.tmp 0), none⟩, .any),
        (⟨(some 7), .lenS (.tmp 6), none⟩, (.int .i64)),
        (⟨(some 8), .move (.const (.int .i64 0)), none⟩, (.int .i64))]) <|
    .block 0 <|
      .loop [(8, (.int .i64))] <|
        .seq (.reg [(⟨(some 9), .bin .lss (.tmp 8) (.tmp 7), none⟩, .any)]) <|
        .seq (.cond (.tmp 9)
            (.skip)
            (.exit 0)) <|
        .seq (.block 1 <|
            .seq (.reg [(⟨(some 10), .move (.tmp 8), none⟩, (.int .i64)),
                (⟨(some 5), .move (.tmp 10), none⟩, (.int .i64))]) <|
            .seq (.reg [(⟨(some 11), .move (.tmp 1), none⟩, (.int .i64)),
                (⟨(some 12), .move (.tmp 0), none⟩, .any),
                (⟨(some 13), .move (.tmp 5), none⟩, (.int .i64)),
                (⟨(some 14), .idxSlice 1 (.tmp 12) (.tmp 13), none⟩, .ptr),
                (⟨(some 15), .load false 1 (.tmp 14), none⟩, (.int .i64)),
                (⟨(some 16), .bin .eql (.tmp 11) (.tmp 15), none⟩, .bool)]) <|
            .cond (.tmp 16)
              (.seq (.reg [(⟨(some 17), .move (.tmp 5), none⟩, (.int .i64)),
                  (⟨(some 4), .move (.tmp 17), none⟩, (.int .i64))]) <|
              .ret)
              (.skip)) <|
        .reg [(⟨(some 18), .bin .add (.tmp 8) (.const (.int .i64 1)), none⟩, (.int .i64)),
          (⟨(some 8), .move (.tmp 18), none⟩, (.int .i64))]) <|
  .seq (.reg [(⟨(some 4), .move (.const (.int .i64 (-1))), none⟩, (.int .i64))]) <|
  .ret
def f_slices_Index_int_int_L5 (n : Nat) (u1 : Int) (u0 : Value) (n0 : Nat) (v1 : Int) (h2 : Heap) : Option (((Int × Unit) × Heap) ⊕ ((Int × Unit) × Heap)) :=
  bif (decide (v1 < (n0 : Int))) then
    ((ixB 1 u0 v1).bind fun q3 =>
    (ldT (.int .i64) h2 (some q3)).bind fun x4 =>
    bif (decide (u1 = x4)) then
      (some (.inr ((v1, ()), h2)))
    else
      (some (.inl (((IntKind.i64.wrap (v1 + 1)), ()), h2))))
  else
    (some (.inr (((-1), ()), h2)))
noncomputable def sf_slices_Index_int_int (n : Nat) : Sf := sfOf []
noncomputable def it_slices_Index_int_int (n : Nat) : It := itOf []
def f_slices_Index_int_int (n : Nat) (u0 : Value) (u1 : Int) (h : Heap) : Option ((Int × Unit) × Heap) :=
  (lenB u0).bind fun n0 =>
  loopT (fun a => f_slices_Index_int_int_L5 n u1 u0 n0 a.1.1 a.2) n ((0, ()), h)
def rs_slices_Index_int_int : Rs := [(.tmp 4, (.int .i64))]
def ps_slices_Index_int_int : List Ty := [.any, (.int .i64)]
theorem e_slices_Index_int_int (n : Nat) (u0 : Value) (u1 : Int) (h : Heap) : f_slices_Index_int_int n u0 u1 h = fB (sf_slices_Index_int_int n) (it_slices_Index_int_int n) n c2_slices_Index_int_int rs_slices_Index_int_int ps_slices_Index_int_int (u0, (u1, ())) h := by kernel_rfl
noncomputable def s_slices_Index_int_int (n : Nat) : Sf1 := mkSf ps_slices_Index_int_int rs_slices_Index_int_int fun a h => f_slices_Index_int_int n a.1 a.2.1 h

/- (*wicket/lock.Locks).Lay -/
def c2_lock_Locks_Lay : C2 :=
  .seq (.reg [(⟨(some 6), .move (.const (.int .i64 0)), none⟩, (.int .i64))]) <|
  .seq (.block 0 <|
      .seq (.reg [(⟨(some 10), .move (.tmp 0), none⟩, .ptr),
          (⟨(some 11), .eqv false .ptr (.tmp 10) (.const (.pointer none)), none⟩, .bool),
          (⟨(some 9), .move (.tmp 11), none⟩, .bool)]) <|
      .cond (.tmp 9)
        (.seq (.reg [(⟨(some 6), .move (.const (.int .i64 1)), none⟩, (.int .i64))]) <|
        .ret)
        (.seq (.reg [(⟨(some 13), .move (.tmp 2), none⟩, .any),
            (⟨(some 14), .call k_lock_rises [(.tmp 13)], none⟩, .bool),
            (⟨(some 15), .un .not (.tmp 14), none⟩, .bool),
            (⟨(some 12), .move (.tmp 15), none⟩, .bool)]) <|
        .cond (.tmp 12)
          (.seq (.reg [(⟨(some 6), .move (.const (.int .i64 53)), none⟩, (.int .i64))]) <|
          .ret)
          (.seq (.cutn [(16, .bool)] <|
              .regd [(⟨0, [], false, ⟨(some 17), .move (.tmp 2), none⟩⟩, .any),
                (⟨1, [0], false, ⟨(some 18), .idxSlice 1 (.tmp 17) (.const (.int .i64 0)), none⟩⟩, .ptr),
                (⟨2, [1, 0], false, ⟨(some 19), .load false 1 (.tmp 18), none⟩⟩, (.int .i64)),
                (⟨3, [2, 1, 0], false, ⟨(some 20), .bin .lss (.tmp 19) (.const (.int .i64 0)), none⟩⟩, .bool),
                (⟨4, [3, 2, 1, 0], false, ⟨(some 21), .move (.tmp 20), none⟩⟩, .bool),
                (⟨5, [4, 3, 2, 1, 0], false, ⟨(some 22), .move (.tmp 2), some (21, false)⟩⟩, .any),
                (⟨6, [4, 3, 2, 1, 0], false, ⟨(some 23), .move (.tmp 2), some (21, false)⟩⟩, .any),
                (⟨7, [6, 4, 3, 2, 1, 0], false, ⟨(some 24), .lenS (.tmp 23), some (21, false)⟩⟩, (.int .i64)),
                (⟨8, [7, 4, 6, 3, 2, 1, 0], false, ⟨(some 25), .bin .sub (.tmp 24) (.const (.int .i64 1)), some (21, false)⟩⟩, (.int .i64)),
                (⟨9, [5, 8, 4, 3, 2, 1, 0, 7, 6], false, ⟨(some 26), .idxSlice 1 (.tmp 22) (.tmp 25), some (21, false)⟩⟩, .ptr),
                (⟨10, [9, 4, 5, 8, 3, 2, 1, 0, 7, 6], false, ⟨(some 27), .load false 1 (.tmp 26), some (21, false)⟩⟩, (.int .i64)),
                (⟨11, [4, 3, 2, 1, 0], false, ⟨(some 28), .move (.tmp 0), some (21, false)⟩⟩, .ptr),
                (⟨12, [11, 4, 3, 2, 1, 0], false, ⟨(some 29), .nilCheck (.tmp 28), some (21, false)⟩⟩, .ptr),
                (⟨13, [12, 4, 11, 3, 2, 1, 0], false, ⟨(some 30), .fieldAddr 0 (.tmp 29), some (21, false)⟩⟩, .ptr),
                (⟨14, [13, 4, 12, 11, 3, 2, 1, 0], false, ⟨(some 31), .load false 1 (.tmp 30), some (21, false)⟩⟩, .any),
                (⟨15, [14, 4, 13, 12, 11, 3, 2, 1, 0], false, ⟨(some 32), .lenS (.tmp 31), some (21, false)⟩⟩, (.int .i64)),
                (⟨16, [10, 15, 4, 9, 5, 8, 3, 2, 1, 0, 7, 6, 14, 13, 12, 11], false, ⟨(some 33), .bin .geq (.tmp 27) (.tmp 32), some (21, false)⟩⟩, .bool),
                (⟨17, [4, 16, 3, 2, 1, 0, 10, 15, 9, 5, 8, 7, 6, 14, 13, 12, 11], false, ⟨(some 34), .pick (.tmp 21) (.const (.bool true)) (.tmp 33), none⟩⟩, .bool),
                (⟨18, [17, 4, 16, 3, 2, 1, 0, 10, 15, 9, 5, 8, 7, 6, 14, 13, 12, 11], false, ⟨(some 16), .move (.tmp 34), none⟩⟩, .bool)]) <|
          .cond (.tmp 16)
            (.seq (.reg [(⟨(some 6), .move (.const (.int .i64 51)), none⟩, (.int .i64))]) <|
            .ret)
            (.seq (.reg [(⟨(some 36), .move (.tmp 1), none⟩, (.int .u64)),
                (⟨(some 37), .move (.tmp 0), none⟩, .ptr),
                (⟨(some 38), .nilCheck (.tmp 37), none⟩, .ptr),
                (⟨(some 39), .fieldAddr 1 (.tmp 38), none⟩, .ptr),
                (⟨(some 40), .load false 1 (.tmp 39), none⟩, (.int .u64)),
                (⟨(some 41), .bin .leq (.tmp 36) (.tmp 40), none⟩, .bool),
                (⟨(some 35), .move (.tmp 41), none⟩, .bool)]) <|
            .cond (.tmp 35)
              (.seq (.reg [(⟨(some 6), .move (.const (.int .i64 110)), none⟩, (.int .i64))]) <|
              .ret)
              (.skip))))) <|
  .seq (.cutn [] <|
      .seq (.reg [(⟨(some 42), .move (.tmp 2), none⟩, .any),
          (⟨(some 43), .lenS (.tmp 42), none⟩, (.int .i64)),
          (⟨(some 44), .move (.const (.int .i64 0)), none⟩, (.int .i64))]) <|
      .block 1 <|
        .loop [(44, (.int .i64))] <|
          .seq (.reg [(⟨(some 45), .bin .lss (.tmp 44) (.tmp 43), none⟩, .any)]) <|
          .seq (.cond (.tmp 45)
              (.skip)
              (.exit 1)) <|
          .seq (.block 2 <|
              .seq (.reg [(⟨(some 46), .idxSlice 1 (.tmp 42) (.tmp 44), none⟩, .ptr),
                  (⟨(some 47), .load false 1 (.tmp 46), none⟩, (.int .i64)),
                  (⟨(some 8), .move (.tmp 47), none⟩, (.int .i64))]) <|
              .reg [(⟨(some 48), .move (.tmp 0), none⟩, .ptr),
                (⟨(some 49), .nilCheck (.tmp 48), none⟩, .ptr),
                (⟨(some 50), .fieldAddr 0 (.tmp 49), none⟩, .ptr),
                (⟨(some 51), .load false 1 (.tmp 50), none⟩, .any),
                (⟨(some 52), .move (.tmp 8), none⟩, (.int .i64)),
                (⟨(some 53), .idxSlice 1 (.tmp 51) (.tmp 52), none⟩, .ptr),
                (⟨(some 54), .load false 1 (.tmp 53), none⟩, .ptr),
                (⟨(some 55), .move (.tmp 1), none⟩, (.int .u64)),
                (⟨(some 56), .call k_ticket_Queue_Put [(.tmp 54), (.tmp 55)], none⟩, (.int .i64))]) <|
          .reg [(⟨(some 57), .bin .add (.tmp 44) (.const (.int .i64 1)), none⟩, (.int .i64)),
            (⟨(some 44), .move (.tmp 57), none⟩, (.int .i64))]) <|
  .seq (.reg [(⟨(some 58), .move (.tmp 0), none⟩, .ptr),
      (⟨(some 59), .move (.tmp 1), none⟩, (.int .u64)),
      (⟨(some 60), .nilCheck (.tmp 58), none⟩, .ptr),
      (⟨(some 61), .fieldAddr 1 (.tmp 60), none⟩, .ptr),
      (⟨none, .store 1 (.tmp 61) (.tmp 59), none⟩, .any)]) <|
  .seq (.regd [(⟨0, [], false, ⟨(some 62), .move (.tmp 0), none⟩⟩, .ptr),
      (⟨1, [0], false, ⟨(some 63), .nilCheck (.tmp 62), none⟩⟩, .ptr),
      (⟨2, [1, 0], false, ⟨(some 64), .fieldAddr 2 (.tmp 63), none⟩⟩, .ptr),
      (⟨3, [2, 1, 0], false, ⟨(some 65), .load false 1 (.tmp 64), none⟩⟩, .any),
      (⟨4, [], false, ⟨(some 66), .move (.tmp 1), none⟩⟩, (.int .u64)),
      (⟨5, [], false, ⟨(some 67), .move (.tmp 2), none⟩⟩, .any),
      (⟨6, [5], true, ⟨(some 68), .call k_slices_Clone_int_int [(.tmp 67)], none⟩⟩, .any),
      (⟨7, [6, 5], false, ⟨(some 69), .build [(.slice none 0 0), (.int .i64 0)] [(0, 1, (.tmp 68))], none⟩⟩, .any),
      (⟨8, [3, 4, 7, 6, 0, 1, 2, 5], true, ⟨none, .mapUpdate .u64 (.tmp 65) (.tmp 66) (.tmp 69), none⟩⟩, .any)]) <|
  .seq (.reg [(⟨(some 6), .move (.const (.int .i64 0)), none⟩, (.int .i64))]) <|
  .ret
def f_lock_Locks_Lay_L22 (n : Nat) (u2 : Value) (u1 : Int) (u0 : Option Addr) (n12 : Nat) (v13 : Int) (h14 : Heap) : Option (((Int × Unit) × Heap) ⊕ ((Unit) × Heap)) :=
  bif (decide (v13 < (n12 : Int))) then
    ((ixB 1 u2 v13).bind fun q15 =>
    (ldT (.int .i64) h14 (some q15)).bind fun x16 =>
    (u0).bind fun q17 =>
    (ldT .any h14 (some (fa q17 0))).bind fun x18 =>
    (ixB 1 x18 x16).bind fun q19 =>
    (ldT .ptr h14 (some q19)).bind fun x20 =>
    (f_ticket_Queue_Put n x20 u1 h14).bind fun p21 =>
    some (.inl (((IntKind.i64.wrap (v13 + 1)), ()), p21.2)))
  else
    (some (.inr ((), h14)))
noncomputable def sf_lock_Locks_Lay (n : Nat) : Sf := sfOf [(k_lock_rises, s_lock_rises n), (k_ticket_Queue_Put, s_ticket_Queue_Put n), (k_slices_Clone_int_int, s_slices_Clone_int_int n)]
noncomputable def it_lock_Locks_Lay (n : Nat) : It := itOf []
def f_lock_Locks_Lay (n : Nat) (u0 : Option Addr) (u1 : Int) (u2 : Value) (h : Heap) : Option ((Int × Unit) × Heap) :=
  bif (Option.isNone u0) then
    (some ((1, ()), h))
  else
    ((f_lock_rises n u2 h).bind fun p0 =>
    bif (!p0.1.1) then
      (some ((53, ()), p0.2))
    else
      ((((ixB 1 u2 0).bind fun q1 =>
        (ldT (.int .i64) p0.2 (some q1)).bind fun x2 =>
        bif (decide (x2 < 0)) then
          (some ((true, ()), p0.2))
        else
          ((lenB u2).bind fun n3 =>
          (ixB 1 u2 (IntKind.i64.wrap ((n3 : Int) - 1))).bind fun q4 =>
          (ldT (.int .i64) p0.2 (some q4)).bind fun x5 =>
          (u0).bind fun q6 =>
          (ldT .any p0.2 (some (fa q6 0))).bind fun x7 =>
          (lenB x7).bind fun n8 =>
          some (((decide ((n8 : Int) ≤ x5)), ()), p0.2))) : Option ((Bool × Unit) × Heap)).bind fun a9 =>
      bif a9.1.1 then
        (some ((51, ()), a9.2))
      else
        ((u0).bind fun q10 =>
        (ldT (.int .u64) a9.2 (some (fa q10 1))).bind fun x11 =>
        bif (decide (u1 ≤ x11)) then
          (some ((110, ()), a9.2))
        else
          ((((lenB u2).bind fun n12 =>
            loopT (fun a => f_lock_Locks_Lay_L22 n u2 u1 u0 n12 a.1.1 a.2) n ((0, ()), a9.2)) : Option ((Unit) × Heap)).bind fun a23 =>
          (u0).bind fun q24 =>
          (stB 1 (.int .u64 u1) a23.2 (some (fa q24 1))).bind fun h25 =>
          (u0).bind fun q26 =>
          (ldT .any h25 (some (fa q26 2))).bind fun x27 =>
          (f_slices_Clone_int_int n u2 (hid h25 [] ((Addr.block (fa q26 2)) :: []))).bind fun p28 =>
          bnd (Heap.putBack p28.2 h25 ([] ++ ((Addr.block (fa q26 2)) :: []))) fun h29 =>
          (fillL [(.slice none 0 0), (.int .i64 0)] [(0, 1, p28.1.1)]).bind fun cs30 =>
          (mapUpdateK h29 .u64 x27 (.int .u64 u1) (.agg ⟨cs30⟩)).bind fun p31 =>
          some ((0, ()), p31.2)))))
def rs_lock_Locks_Lay : Rs := [(.tmp 6, (.int .i64))]
def ps_lock_Locks_Lay : List Ty := [.ptr, (.int .u64), .any]
theorem e_lock_Locks_Lay (n : Nat) (u0 : Option Addr) (u1 : Int) (u2 : Value) (h : Heap) : f_lock_Locks_Lay n u0 u1 u2 h = fB (sf_lock_Locks_Lay n) (it_lock_Locks_Lay n) n c2_lock_Locks_Lay rs_lock_Locks_Lay ps_lock_Locks_Lay (u0, (u1, (u2, ()))) h := by kernel_rfl
noncomputable def s_lock_Locks_Lay (n : Nat) : Sf1 := mkSf ps_lock_Locks_Lay rs_lock_Locks_Lay fun a h => f_lock_Locks_Lay n a.1 a.2.1 a.2.2.1 h

/- wicket/wicketlaw14.made -/
def c2_wicketlaw14_made : C2 :=
  .seq (.reg [(⟨(some 0), .move (.const (.pointer none)), none⟩, .ptr)]) <|
  .seq (.reg [(⟨(some 4), .call k_lock_New [(.const (.int .i64 4))], none⟩, .any),
      (⟨(some 3), .move (.tmp 4), none⟩, .any),
      (⟨(some 5), .extract (.tmp 3) 0, none⟩, .ptr),
      (⟨(some 6), .extract (.tmp 3) 1, none⟩, (.int .i64)),
      (⟨(some 1), .move (.tmp 5), none⟩, .ptr),
      (⟨(some 2), .move (.tmp 6), none⟩, (.int .i64))]) <|
  .seq (.seq (.cutn [(34, .bool)] <|
        .reg [(⟨(some 7), .move (.tmp 1), none⟩, .ptr),
          (⟨(some 8), .eqv false .ptr (.tmp 7) (.const (.pointer none)), none⟩, .bool),
          (⟨(some 9), .move (.tmp 8), none⟩, .bool),
          (⟨(some 10), .move (.tmp 2), some (9, false)⟩, (.int .i64)),
          (⟨(some 11), .call k_wicketlaw14_num [(.tmp 10)], some (9, false)⟩, (.int .i64)),
          (⟨(some 12), .bin .neq (.tmp 11) (.const (.int .i64 0)), some (9, false)⟩, .bool),
          (⟨(some 13), .pick (.tmp 9) (.const (.bool true)) (.tmp 12), none⟩, .bool),
          (⟨(some 14), .move (.tmp 13), none⟩, .bool),
          (⟨(some 15), .move (.tmp 1), some (14, false)⟩, .ptr),
          (⟨(some 16), .buildSlice 2 1 [(.int .i64 0), (.int .i64 0)] [(0, 1, (.const (.int .i64 0))), (1, 1, (.const (.int .i64 2)))], some (14, false)⟩, .any),
          (⟨(some 17), .call k_lock_Locks_Lay [(.tmp 15), (.const (.int .u64 1)), (.tmp 16)], some (14, false)⟩, (.int .i64)),
          (⟨(some 18), .call k_wicketlaw14_num [(.tmp 17)], some (14, false)⟩, (.int .i64)),
          (⟨(some 19), .bin .neq (.tmp 18) (.const (.int .i64 0)), some (14, false)⟩, .bool),
          (⟨(some 20), .pick (.tmp 14) (.const (.bool true)) (.tmp 19), none⟩, .bool),
          (⟨(some 21), .move (.tmp 20), none⟩, .bool),
          (⟨(some 22), .move (.tmp 1), some (21, false)⟩, .ptr),
          (⟨(some 23), .buildSlice 2 1 [(.int .i64 0), (.int .i64 0)] [(0, 1, (.const (.int .i64 2))), (1, 1, (.const (.int .i64 3)))], some (21, false)⟩, .any),
          (⟨(some 24), .call k_lock_Locks_Lay [(.tmp 22), (.const (.int .u64 2)), (.tmp 23)], some (21, false)⟩, (.int .i64)),
          (⟨(some 25), .call k_wicketlaw14_num [(.tmp 24)], some (21, false)⟩, (.int .i64)),
          (⟨(some 26), .bin .neq (.tmp 25) (.const (.int .i64 0)), some (21, false)⟩, .bool),
          (⟨(some 27), .pick (.tmp 21) (.const (.bool true)) (.tmp 26), none⟩, .bool),
          (⟨(some 28), .move (.tmp 27), none⟩, .bool),
          (⟨(some 29), .move (.tmp 1), some (28, false)⟩, .ptr),
          (⟨(some 30), .buildSlice 1 1 [(.int .i64 0)] [(0, 1, (.const (.int .i64 0)))], some (28, false)⟩, .any),
          (⟨(some 31), .call k_lock_Locks_Lay [(.tmp 29), (.const (.int .u64 3)), (.tmp 30)], some (28, false)⟩, (.int .i64)),
          (⟨(some 32), .call k_wicketlaw14_num [(.tmp 31)], some (28, false)⟩, (.int .i64)),
          (⟨(some 33), .bin .neq (.tmp 32) (.const (.int .i64 0)), some (28, false)⟩, .bool),
          (⟨(some 34), .pick (.tmp 28) (.const (.bool true)) (.tmp 33), none⟩, .bool)]) <|
    .cond (.tmp 34)
      (.seq (.reg [(⟨(some 0), .move (.const (.pointer none)), none⟩, .ptr)]) <|
      .ret)
      (.skip)) <|
  .seq (.reg [(⟨(some 35), .move (.tmp 1), none⟩, .ptr),
      (⟨(some 0), .move (.tmp 35), none⟩, .ptr)]) <|
  .ret
noncomputable def sf_wicketlaw14_made (n : Nat) : Sf := sfOf [(k_lock_New, s_lock_New n), (k_wicketlaw14_num, s_wicketlaw14_num n), (k_lock_Locks_Lay, s_lock_Locks_Lay n)]
noncomputable def it_wicketlaw14_made (n : Nat) : It := itOf []
def f_wicketlaw14_made (n : Nat)  (h : Heap) : Option ((Option Addr × Unit) × Heap) :=
  (f_lock_New n 4 h).bind fun p0 =>
  ((bif (Option.isNone p0.1.1) then
      (some ((true, ()), p0.2))
    else
      ((f_wicketlaw14_num n p0.1.2.1 p0.2).bind fun p1 =>
      bif (!decide (p1.1.1 = 0)) then
        (some ((true, ()), p1.2))
      else
        ((fillL [(.int .i64 0), (.int .i64 0)] [(0, 1, (.int .i64 0)), (1, 1, (.int .i64 2))]).bind fun cs2 =>
        bnd ((Heap.new p1.2 (.cells cs2 false 1))) fun h3 =>
        (f_lock_Locks_Lay n p0.1.1 1 (.slice (some ⟨Heap.next p1.2, 0, some 0⟩) 2 2) h3).bind fun p4 =>
        (f_wicketlaw14_num n p4.1.1 p4.2).bind fun p5 =>
        bif (!decide (p5.1.1 = 0)) then
          (some ((true, ()), p5.2))
        else
          ((fillL [(.int .i64 0), (.int .i64 0)] [(0, 1, (.int .i64 2)), (1, 1, (.int .i64 3))]).bind fun cs6 =>
          bnd ((Heap.new p5.2 (.cells cs6 false 1))) fun h7 =>
          (f_lock_Locks_Lay n p0.1.1 2 (.slice (some ⟨Heap.next p5.2, 0, some 0⟩) 2 2) h7).bind fun p8 =>
          (f_wicketlaw14_num n p8.1.1 p8.2).bind fun p9 =>
          bif (!decide (p9.1.1 = 0)) then
            (some ((true, ()), p9.2))
          else
            ((fillL [(.int .i64 0)] [(0, 1, (.int .i64 0))]).bind fun cs10 =>
            bnd ((Heap.new p9.2 (.cells cs10 false 1))) fun h11 =>
            (f_lock_Locks_Lay n p0.1.1 3 (.slice (some ⟨Heap.next p9.2, 0, some 0⟩) 1 1) h11).bind fun p12 =>
            (f_wicketlaw14_num n p12.1.1 p12.2).bind fun p13 =>
            some (((!decide (p13.1.1 = 0)), ()), p13.2)))))) : Option ((Bool × Unit) × Heap)).bind fun a14 =>
  bif a14.1.1 then
    (some ((none, ()), a14.2))
  else
    (some ((p0.1.1, ()), a14.2))
def rs_wicketlaw14_made : Rs := [(.tmp 0, .ptr)]
def ps_wicketlaw14_made : List Ty := []
theorem e_wicketlaw14_made (n : Nat)  (h : Heap) : f_wicketlaw14_made n h = fB (sf_wicketlaw14_made n) (it_wicketlaw14_made n) n c2_wicketlaw14_made rs_wicketlaw14_made ps_wicketlaw14_made () h := by kernel_rfl
noncomputable def s_wicketlaw14_made (n : Nat) : Sf1 := mkSf ps_wicketlaw14_made rs_wicketlaw14_made fun a h => f_wicketlaw14_made n h

/- (*wicket/ticket.Queue).First -/
def c2_ticket_Queue_First : C2 :=
  .seq (.reg [(⟨(some 2), .move (.const (.int .u64 0)), none⟩, (.int .u64)),
      (⟨(some 3), .move (.const (.bool false)), none⟩, .bool)]) <|
  .seq (.seq (.reg [(⟨(some 4), .move (.tmp 0), none⟩, .ptr),
        (⟨(some 5), .call k_ticket_Queue_Len [(.tmp 4)], none⟩, (.int .i64)),
        (⟨(some 6), .bin .eql (.tmp 5) (.const (.int .i64 0)), none⟩, .bool)]) <|
    .cond (.tmp 6)
      (.seq (.reg [(⟨(some 2), .move (.const (.int .u64 0)), none⟩, (.int .u64)),
          (⟨(some 3), .move (.const (.bool false)), none⟩, .bool)]) <|
      .ret)
      (.skip)) <|
  .seq (.reg [(⟨(some 7), .move (.tmp 0), none⟩, .ptr),
      (⟨(some 8), .nilCheck (.tmp 7), none⟩, .ptr),
      (⟨(some 9), .fieldAddr 0 (.tmp 8), none⟩, .ptr),
      (⟨(some 10), .load false 1 (.tmp 9), none⟩, .any),
      (⟨(some 11), .idxSlice 1 (.tmp 10) (.const (.int .i64 0)), none⟩, .ptr),
      (⟨(some 12), .load false 1 (.tmp 11), none⟩, (.int .u64)),
      (⟨(some 2), .move (.tmp 12), none⟩, (.int .u64)),
      (⟨(some 3), .move (.const (.bool true)), none⟩, .bool)]) <|
  .ret
noncomputable def sf_ticket_Queue_First (n : Nat) : Sf := sfOf [(k_ticket_Queue_Len, s_ticket_Queue_Len n)]
noncomputable def it_ticket_Queue_First (n : Nat) : It := itOf []
def f_ticket_Queue_First (n : Nat) (u0 : Option Addr) (h : Heap) : Option ((Int × Bool × Unit) × Heap) :=
  (f_ticket_Queue_Len n u0 h).bind fun p0 =>
  bif (decide (p0.1.1 = 0)) then
    (some ((0, (false, ())), p0.2))
  else
    ((u0).bind fun q1 =>
    (ldT .any p0.2 (some (fa q1 0))).bind fun x2 =>
    (ixB 1 x2 0).bind fun q3 =>
    (ldT (.int .u64) p0.2 (some q3)).bind fun x4 =>
    some ((x4, (true, ())), p0.2))
def rs_ticket_Queue_First : Rs := [(.tmp 2, (.int .u64)), (.tmp 3, .bool)]
def ps_ticket_Queue_First : List Ty := [.ptr]
theorem e_ticket_Queue_First (n : Nat) (u0 : Option Addr) (h : Heap) : f_ticket_Queue_First n u0 h = fB (sf_ticket_Queue_First n) (it_ticket_Queue_First n) n c2_ticket_Queue_First rs_ticket_Queue_First ps_ticket_Queue_First (u0, ()) h := by kernel_rfl
noncomputable def s_ticket_Queue_First (n : Nat) : Sf1 := mkSf ps_ticket_Queue_First rs_ticket_Queue_First fun a h => f_ticket_Queue_First n a.1 h

/- (*wicket/ticket.Queue).All -/
def c2_ticket_Queue_All : C2 :=
  .seq (.reg [(⟨(some 1), .box (.tmp 0), none⟩, .ptr),
      (⟨(some 2), .move (.const .nilFunc), none⟩, (.fn k_ticket_Queue_All_1 1))]) <|
  .seq (.reg [(⟨(some 3), .makeFunc k_ticket_Queue_All_1 [] [(.tmp 1)], none⟩, (.fn k_ticket_Queue_All_1 1)),
      (⟨(some 2), .move (.tmp 3), none⟩, (.fn k_ticket_Queue_All_1 1))]) <|
  .ret
noncomputable def sf_ticket_Queue_All (n : Nat) : Sf := sfOf []
noncomputable def it_ticket_Queue_All (n : Nat) : It := itOf []
def f_ticket_Queue_All (n : Nat) (u0 : Option Addr) (h : Heap) : Option ((Ptrs 1 × Unit) × Heap) :=
  bnd ((Heap.new h (.cells [(.pointer u0)] false 0))) fun h0 =>
  some ((((some (nwA h)), ()), ()), h0)
def rs_ticket_Queue_All : Rs := [(.tmp 2, (.fn k_ticket_Queue_All_1 1))]
def ps_ticket_Queue_All : List Ty := [.ptr]
theorem e_ticket_Queue_All (n : Nat) (u0 : Option Addr) (h : Heap) : f_ticket_Queue_All n u0 h = fB (sf_ticket_Queue_All n) (it_ticket_Queue_All n) n c2_ticket_Queue_All rs_ticket_Queue_All ps_ticket_Queue_All (u0, ()) h := by kernel_rfl
noncomputable def s_ticket_Queue_All (n : Nat) : Sf1 := mkSf ps_ticket_Queue_All rs_ticket_Queue_All fun a h => f_ticket_Queue_All n a.1 h

/- (*wicket/ticket.Queue).Place -/
def c2_ticket_Queue_Place : C2 :=
  .seq (.reg [(⟨(some 3), .box (.tmp 1), none⟩, .ptr),
      (⟨(some 4), .alloc [(.int .i64 0)], none⟩, .ptr)]) <|
  .seq (.reg [(⟨(some 5), .alloc [(.int .i64 0)], none⟩, .ptr),
      (⟨none, .store 1 (.tmp 5) (.const (.int .i64 0)), none⟩, .any)]) <|
  .seq (.seq (.reg [(⟨(some 7), .move (.tmp 0), none⟩, .ptr),
        (⟨(some 8), .call k_ticket_Queue_All [(.tmp 7)], none⟩, (.fn k_ticket_Queue_All_1 1))]) <|
    .block 0 <|
      .range (.tmp 8) [9] [.ret]
        (.reg [(⟨(some 6), .move (.tmp 9), none⟩, (.int .u64))])
        (.block 1 <|
          .seq (.seq (.reg [(⟨(some 10), .move (.tmp 6), none⟩, (.int .u64)),
                (⟨(some 11), .load false 1 (.tmp 3), none⟩, (.int .u64)),
                (⟨(some 12), .bin .eql (.tmp 10) (.tmp 11), none⟩, .bool)]) <|
            .cond (.tmp 12)
              (.seq (.reg [(⟨(some 13), .load false 1 (.tmp 5), none⟩, (.int .i64)),
                  (⟨none, .store 1 (.tmp 4) (.tmp 13), none⟩, .any)]) <|
              .ret)
              (.skip)) <|
          .reg [(⟨(some 14), .load false 1 (.tmp 5), none⟩, (.int .i64)),
            (⟨(some 15), .bin .add (.tmp 14) (.const (.int .i64 1)), none⟩, (.int .i64)),
            (⟨none, .store 1 (.tmp 5) (.tmp 15), none⟩, .any)])) <|
  .seq (.reg [(⟨none, .store 1 (.tmp 4) (.const (.int .i64 (-1))), none⟩, .any)]) <|
  .ret
def f_ticket_Queue_Place_B12 (n : Nat) (h : Heap) (h0 : Heap) (h1 : Heap) (y5 : Int) (v6 : (Heap × Nat)) : Option (Bool × (Heap × Nat)) :=
  bif Nat.beq v6.2 0 then
    ((ldT (.int .u64) v6.1 (some (nwA h))).bind fun x7 =>
    bif (decide (y5 = x7)) then
      ((ldT (.int .i64) v6.1 (some (nwA h1))).bind fun x8 =>
      (stB 1 (.int .i64 x8) v6.1 (some (nwA h0))).bind fun h9 =>
      some (false, (h9, 1)))
    else
      ((ldT (.int .i64) v6.1 (some (nwA h1))).bind fun x10 =>
      (stB 1 (.int .i64 (IntKind.i64.wrap (x10 + 1))) v6.1 (some (nwA h1))).bind fun h11 =>
      some (true, (h11, 0))))
  else none
noncomputable def sf_ticket_Queue_Place (n : Nat) : Sf := sfOf [(k_ticket_Queue_All, s_ticket_Queue_All n)]
noncomputable def it_ticket_Queue_Place (n : Nat) : It := itOf [(k_ticket_Queue_All_1, i_ticket_Queue_All_1 n)]
def f_ticket_Queue_Place (n : Nat) (u0 : Option Addr) (u1 : Int) (h : Heap) : Option ((Int × Unit) × Heap) :=
  bnd ((Heap.new h (.cells [(.int .u64 u1)] false 0))) fun h0 =>
  bnd ((Heap.new h0 (.cells [(.int .i64 0)] false 0))) fun h1 =>
  bnd ((Heap.new h1 (.cells [(.int .i64 0)] false 0))) fun h2 =>
  (stB 1 (.int .i64 0) h2 (some (nwA h1))).bind fun h3 =>
  (f_ticket_Queue_All n u0 h3).bind fun p4 =>
  (f_ticket_Queue_All_1 (V := (Heap × Nat)) (fun v => v.1) (fun v h => (h, v.2)) (fun a v => f_ticket_Queue_Place_B12 n h h0 h1 a.1 v) n p4.1.1.1 ((Heap.hole (Heap.hole p4.2)), 0)).bind fun v13 =>
  bif Nat.beq v13.2 0 then
    ((stB 1 (.int .i64 (-1)) v13.1 (some (nwA h0))).bind fun h14 =>
    (ldT (.int .i64) h14 (some (nwA h0))).bind fun x15 =>
    some ((x15, ()), h14))
  else
    (bif Nat.beq v13.2 1 then
      ((ldT (.int .i64) v13.1 (some (nwA h0))).bind fun x16 =>
      some ((x16, ()), v13.1))
    else
      (none))
def rs_ticket_Queue_Place : Rs := [(.cell false 1 4, (.int .i64))]
def ps_ticket_Queue_Place : List Ty := [.ptr, (.int .u64)]
theorem e_ticket_Queue_Place (n : Nat) (u0 : Option Addr) (u1 : Int) (h : Heap) : f_ticket_Queue_Place n u0 u1 h = fB (sf_ticket_Queue_Place n) (it_ticket_Queue_Place n) n c2_ticket_Queue_Place rs_ticket_Queue_Place ps_ticket_Queue_Place (u0, (u1, ())) h := by kernel_rfl
noncomputable def s_ticket_Queue_Place (n : Nat) : Sf1 := mkSf ps_ticket_Queue_Place rs_ticket_Queue_Place fun a h => f_ticket_Queue_Place n a.1 a.2.1 h

/- slices.Contains[[]int,int] -/
def c2_slices_Contains_int_int : C2 :=
  .seq (.reg [(⟨(some 4), .move (.const (.bool false)), none⟩, .bool)]) <|
  .seq (.reg [(⟨(some 5), .move (.tmp 0), none⟩, .any),
      (⟨(some 6), .move (.tmp 1), none⟩, (.int .i64)),
      (⟨(some 7), .call k_slices_Index_int_int [(.tmp 5), (.tmp 6)], none⟩, (.int .i64)),
      (⟨(some 8), .bin .geq (.tmp 7) (.const (.int .i64 0)), none⟩, .bool),
      (⟨(some 4), .move (.tmp 8), none⟩, .bool)]) <|
  .ret
noncomputable def sf_slices_Contains_int_int (n : Nat) : Sf := sfOf [(k_slices_Index_int_int, s_slices_Index_int_int n)]
noncomputable def it_slices_Contains_int_int (n : Nat) : It := itOf []
def f_slices_Contains_int_int (n : Nat) (u0 : Value) (u1 : Int) (h : Heap) : Option ((Bool × Unit) × Heap) :=
  (f_slices_Index_int_int n u0 u1 h).bind fun p0 =>
  some (((decide (0 ≤ p0.1.1)), ()), p0.2)
def rs_slices_Contains_int_int : Rs := [(.tmp 4, .bool)]
def ps_slices_Contains_int_int : List Ty := [.any, (.int .i64)]
theorem e_slices_Contains_int_int (n : Nat) (u0 : Value) (u1 : Int) (h : Heap) : f_slices_Contains_int_int n u0 u1 h = fB (sf_slices_Contains_int_int n) (it_slices_Contains_int_int n) n c2_slices_Contains_int_int rs_slices_Contains_int_int ps_slices_Contains_int_int (u0, (u1, ())) h := by kernel_rfl
noncomputable def s_slices_Contains_int_int (n : Nat) : Sf1 := mkSf ps_slices_Contains_int_int rs_slices_Contains_int_int fun a h => f_slices_Contains_int_int n a.1 a.2.1 h

/- wicket/wicketlaw14.crowd -/
def c2_wicketlaw14_crowd : C2 :=
  .seq (.reg [(⟨(some 4), .move (.const (.pointer none)), none⟩, .ptr),
      (⟨(some 5), .move (.const (.slice none 0 0)), none⟩, .any)]) <|
  .seq (.reg [(⟨(some 12), .move (.tmp 0), none⟩, (.int .i64)),
      (⟨(some 13), .call k_lock_New [(.tmp 12)], none⟩, .any),
      (⟨(some 11), .move (.tmp 13), none⟩, .any),
      (⟨(some 14), .extract (.tmp 11) 0, none⟩, .ptr),
      (⟨(some 15), .extract (.tmp 11) 1, none⟩, (.int .i64)),
      (⟨(some 6), .move (.tmp 14), none⟩, .ptr),
      (⟨(some 7), .move (.tmp 15), none⟩, (.int .i64))]) <|
  .seq (.seq (.cutn [(22, .bool)] <|
        .reg [(⟨(some 16), .move (.tmp 6), none⟩, .ptr),
          (⟨(some 17), .eqv false .ptr (.tmp 16) (.const (.pointer none)), none⟩, .bool),
          (⟨(some 18), .move (.tmp 17), none⟩, .bool),
          (⟨(some 19), .move (.tmp 7), some (18, false)⟩, (.int .i64)),
          (⟨(some 20), .call k_wicketlaw14_num [(.tmp 19)], some (18, false)⟩, (.int .i64)),
          (⟨(some 21), .bin .neq (.tmp 20) (.const (.int .i64 0)), some (18, false)⟩, .bool),
          (⟨(some 22), .pick (.tmp 18) (.const (.bool true)) (.tmp 21), none⟩, .bool)]) <|
    .cond (.tmp 22)
      (.seq (.reg [(⟨(some 4), .move (.const (.pointer none)), none⟩, .ptr),
          (⟨(some 5), .move (.const (.slice none 0 0)), none⟩, .any)]) <|
      .ret)
      (.skip)) <|
  .seq (.reg [(⟨(some 8), .move (.const (.slice none 0 0)), none⟩, .any)]) <|
  .seq (.cut [(8, .any)] <|
      .seq (.reg [(⟨(some 9), .move (.const (.int .i64 0)), none⟩, (.int .i64))]) <|
      .block 0 <|
        .loop [(8, .any), (9, (.int .i64))] <|
          .seq (.seq (.cutn [(30, .bool)] <|
                .reg [(⟨(some 23), .move (.tmp 9), none⟩, (.int .i64)),
                  (⟨(some 24), .move (.tmp 1), none⟩, .any),
                  (⟨(some 25), .lenS (.tmp 24), none⟩, (.int .i64)),
                  (⟨(some 26), .bin .lss (.tmp 23) (.tmp 25), none⟩, .bool),
                  (⟨(some 27), .move (.tmp 26), none⟩, .bool),
                  (⟨(some 28), .move (.tmp 9), some (27, true)⟩, (.int .i64)),
                  (⟨(some 29), .bin .lss (.tmp 28) (.const (.int .i64 10)), some (27, true)⟩, .bool),
                  (⟨(some 30), .pick (.tmp 27) (.tmp 29) (.const (.bool false)), none⟩, .bool)]) <|
            .cond (.tmp 30)
              (.skip)
              (.exit 0)) <|
          .seq (.block 1 <|
              .seq (.reg [(⟨(some 33), .move (.tmp 1), none⟩, .any),
                  (⟨(some 34), .move (.tmp 9), none⟩, (.int .i64)),
                  (⟨(some 35), .idxSlice 1 (.tmp 33) (.tmp 34), none⟩, .ptr),
                  (⟨(some 36), .load false 1 (.tmp 35), none⟩, (.int .u64)),
                  (⟨(some 37), .move (.tmp 0), none⟩, (.int .i64)),
                  (⟨(some 38), .call k_wicketlaw14_set [(.tmp 36), (.tmp 37)], none⟩, .any),
                  (⟨(some 10), .move (.tmp 38), none⟩, .any)]) <|
              .seq (.seq (.reg [(⟨(some 39), .move (.tmp 6), none⟩, .ptr),
                    (⟨(some 40), .move (.tmp 9), none⟩, (.int .i64)),
                    (⟨(some 41), .bin .add (.tmp 40) (.const (.int .i64 1)), none⟩, (.int .i64)),
                    (⟨(some 42), .conv .u64 (.tmp 41), none⟩, (.int .u64)),
                    (⟨(some 43), .buildSlice 0 1 [] [], none⟩, .any),
                    (⟨(some 44), .move (.tmp 10), none⟩, .any),
                    (⟨(some 45), .append 8 1 (.tmp 43) (.tmp 44), none⟩, .any),
                    (⟨(some 46), .call k_lock_Locks_Lay [(.tmp 39), (.tmp 42), (.tmp 45)], none⟩, (.int .i64)),
                    (⟨(some 47), .call k_wicketlaw14_num [(.tmp 46)], none⟩, (.int .i64)),
                    (⟨(some 48), .bin .neq (.tmp 47) (.const (.int .i64 0)), none⟩, .bool)]) <|
                .cond (.tmp 48)
                  (.seq (.reg [(⟨(some 4), .move (.const (.pointer none)), none⟩, .ptr),
                      (⟨(some 5), .move (.const (.slice none 0 0)), none⟩, .any)]) <|
                  .ret)
                  (.skip)) <|
              .reg [(⟨(some 49), .move (.tmp 8), none⟩, .any),
                (⟨(some 50), .move (.tmp 10), none⟩, .any),
                (⟨(some 51), .buildSlice 1 1 [(.slice none 0 0)] [(0, 1, (.tmp 50))], none⟩, .any),
                (⟨(some 52), .append 24 1 (.tmp 49) (.tmp 51), none⟩, .any),
                (⟨(some 8), .move (.tmp 52), none⟩, .any)]) <|
          .reg [(⟨(some 31), .move (.tmp 9), none⟩, (.int .i64)),
            (⟨(some 32), .bin .add (.tmp 31) (.const (.int .i64 1)), none⟩, (.int .i64)),
            (⟨(some 9), .move (.tmp 32), none⟩, (.int .i64))]) <|
  .seq (.reg [(⟨(some 53), .move (.tmp 6), none⟩, .ptr),
      (⟨(some 54), .move (.tmp 8), none⟩, .any),
      (⟨(some 4), .move (.tmp 53), none⟩, .ptr),
      (⟨(some 5), .move (.tmp 54), none⟩, .any)]) <|
  .ret
def f_wicketlaw14_crowd_L20 (n : Nat) (u1 : Value) (u0 : Int) (p0 : ((Option Addr × Int × Unit) × Heap)) (v4 : Value) (v5 : Int) (h6 : Heap) : Option (((Value × Int × Unit) × Heap) ⊕ (((Value × Unit) × Heap) ⊕ ((Option Addr × Value × Unit) × Heap))) :=
  (((lenB u1).bind fun n7 =>
    bif (decide (v5 < (n7 : Int))) then
      (some (((decide (v5 < 10)), ()), h6))
    else
      (some ((false, ()), h6))) : Option ((Bool × Unit) × Heap)).bind fun a8 =>
  bif a8.1.1 then
    ((ixB 1 u1 v5).bind fun q9 =>
    (ldT (.int .u64) a8.2 (some q9)).bind fun x10 =>
    (f_wicketlaw14_set n x10 u0 a8.2).bind fun p11 =>
    (fillL [] []).bind fun cs12 =>
    bnd ((Heap.new p11.2 (.cells cs12 false 1))) fun h13 =>
    (appendK h13 8 1 (.slice (some ⟨Heap.next p11.2, 0, some 0⟩) 0 0) p11.1.1).bind fun p14 =>
    (f_lock_Locks_Lay n p0.1.1 (IntKind.u64.wrap ((IntKind.i64.wrap (v5 + 1)))) p14.1 p14.2).bind fun p15 =>
    (f_wicketlaw14_num n p15.1.1 p15.2).bind fun p16 =>
    bif (!decide (p16.1.1 = 0)) then
      (some (.inr (.inr ((none, ((.slice none 0 0), ())), p16.2))))
    else
      ((fillL [(.slice none 0 0)] [(0, 1, p11.1.1)]).bind fun cs17 =>
      bnd ((Heap.new p16.2 (.cells cs17 false 1))) fun h18 =>
      (appendK h18 24 1 v4 (.slice (some ⟨Heap.next p16.2, 0, some 0⟩) 1 1)).bind fun p19 =>
      some (.inl ((p19.1, ((IntKind.i64.wrap (v5 + 1)), ())), p19.2))))
  else
    (some (.inr (.inl ((v4, ()), a8.2))))
def f_wicketlaw14_crowd_C21 (n : Nat) (u1 : Value) (u0 : Int) (p0 : ((Option Addr × Int × Unit) × Heap)) (h3 : Heap) : Option (((Value × Unit) × Heap) ⊕ ((Option Addr × Value × Unit) × Heap)) :=
  loopT (fun a => f_wicketlaw14_crowd_L20 n u1 u0 p0 a.1.1 a.1.2.1 a.2) n (((.slice none 0 0), (0, ())), h3)
noncomputable def sf_wicketlaw14_crowd (n : Nat) : Sf := sfOf [(k_lock_New, s_lock_New n), (k_wicketlaw14_num, s_wicketlaw14_num n), (k_wicketlaw14_set, s_wicketlaw14_set n), (k_lock_Locks_Lay, s_lock_Locks_Lay n)]
noncomputable def it_wicketlaw14_crowd (n : Nat) : It := itOf []
def f_wicketlaw14_crowd (n : Nat) (u0 : Int) (u1 : Value) (h : Heap) : Option ((Option Addr × Value × Unit) × Heap) :=
  (f_lock_New n u0 h).bind fun p0 =>
  ((bif (Option.isNone p0.1.1) then
      (some ((true, ()), p0.2))
    else
      ((f_wicketlaw14_num n p0.1.2.1 p0.2).bind fun p1 =>
      some (((!decide (p1.1.1 = 0)), ()), p1.2))) : Option ((Bool × Unit) × Heap)).bind fun a2 =>
  bif a2.1.1 then
    (some ((none, ((.slice none 0 0), ())), a2.2))
  else
    (thenB (f_wicketlaw14_crowd_C21 n u1 u0 p0 (a2.2)) fun a22 =>
    bif !isTuple a22.1.1 then
      (some ((p0.1.1, (a22.1.1, ())), a22.2))
    else
      (none))
def rs_wicketlaw14_crowd : Rs := [(.tmp 4, .ptr), (.tmp 5, .any)]
def ps_wicketlaw14_crowd : List Ty := [(.int .i64), .any]
theorem e_wicketlaw14_crowd (n : Nat) (u0 : Int) (u1 : Value) (h : Heap) : f_wicketlaw14_crowd n u0 u1 h = fB (sf_wicketlaw14_crowd n) (it_wicketlaw14_crowd n) n c2_wicketlaw14_crowd rs_wicketlaw14_crowd ps_wicketlaw14_crowd (u0, (u1, ())) h := by kernel_rfl
noncomputable def s_wicketlaw14_crowd (n : Nat) : Sf1 := mkSf ps_wicketlaw14_crowd rs_wicketlaw14_crowd fun a h => f_wicketlaw14_crowd n a.1 a.2.1 h

/- (*wicket/lock.Locks).Ready -/
def c2_lock_Locks_Ready : C2 :=
  .seq (.reg [(⟨(some 4), .move (.const (.bool false)), none⟩, .bool)]) <|
  .seq (.reg [(⟨(some 10), .move (.tmp 0), none⟩, .ptr),
      (⟨(some 11), .move (.tmp 1), none⟩, (.int .u64)),
      (⟨(some 12), .call k_lock_Locks_Next [(.tmp 10), (.tmp 11)], none⟩, .any),
      (⟨(some 9), .move (.tmp 12), none⟩, .any),
      (⟨(some 13), .extract (.tmp 9) 0, none⟩, (.int .i64)),
      (⟨(some 14), .extract (.tmp 9) 1, none⟩, .bool),
      (⟨(some 5), .move (.tmp 13), none⟩, (.int .i64)),
      (⟨(some 6), .move (.tmp 14), none⟩, .bool)]) <|
  .seq (.seq (.reg [(⟨(some 15), .move (.tmp 6), none⟩, .bool),
        (⟨(some 16), .un .not (.tmp 15), none⟩, .bool)]) <|
    .cond (.tmp 16)
      (.seq (.reg [(⟨(some 4), .move (.const (.bool false)), none⟩, .bool)]) <|
      .ret)
      (.skip)) <|
  .seq (.reg [(⟨(some 18), .move (.tmp 0), none⟩, .ptr),
      (⟨(some 19), .nilCheck (.tmp 18), none⟩, .ptr),
      (⟨(some 20), .fieldAddr 0 (.tmp 19), none⟩, .ptr),
      (⟨(some 21), .load false 1 (.tmp 20), none⟩, .any),
      (⟨(some 22), .move (.tmp 5), none⟩, (.int .i64)),
      (⟨(some 23), .idxSlice 1 (.tmp 21) (.tmp 22), none⟩, .ptr),
      (⟨(some 24), .load false 1 (.tmp 23), none⟩, .ptr),
      (⟨(some 25), .call k_ticket_Queue_First [(.tmp 24)], none⟩, .any),
      (⟨(some 17), .move (.tmp 25), none⟩, .any),
      (⟨(some 26), .extract (.tmp 17) 0, none⟩, (.int .u64)),
      (⟨(some 27), .extract (.tmp 17) 1, none⟩, .bool),
      (⟨(some 7), .move (.tmp 26), none⟩, (.int .u64)),
      (⟨(some 8), .move (.tmp 27), none⟩, .bool)]) <|
  .seq (.reg [(⟨(some 28), .move (.tmp 8), none⟩, .bool),
      (⟨(some 29), .move (.tmp 28), none⟩, .bool),
      (⟨(some 30), .move (.tmp 7), some (29, true)⟩, (.int .u64)),
      (⟨(some 31), .move (.tmp 1), some (29, true)⟩, (.int .u64)),
      (⟨(some 32), .bin .eql (.tmp 30) (.tmp 31), some (29, true)⟩, .bool),
      (⟨(some 33), .pick (.tmp 29) (.tmp 32) (.const (.bool false)), none⟩, .bool),
      (⟨(some 4), .move (.tmp 33), none⟩, .bool)]) <|
  .ret
noncomputable def sf_lock_Locks_Ready (n : Nat) : Sf := sfOf [(k_lock_Locks_Next, s_lock_Locks_Next n), (k_ticket_Queue_First, s_ticket_Queue_First n)]
noncomputable def it_lock_Locks_Ready (n : Nat) : It := itOf []
def f_lock_Locks_Ready (n : Nat) (u0 : Option Addr) (u1 : Int) (h : Heap) : Option ((Bool × Unit) × Heap) :=
  (f_lock_Locks_Next n u0 u1 h).bind fun p0 =>
  bif (!p0.1.2.1) then
    (some ((false, ()), p0.2))
  else
    ((u0).bind fun q1 =>
    (ldT .any p0.2 (some (fa q1 0))).bind fun x2 =>
    (ixB 1 x2 p0.1.1).bind fun q3 =>
    (ldT .ptr p0.2 (some q3)).bind fun x4 =>
    (f_ticket_Queue_First n x4 p0.2).bind fun p5 =>
    bif p5.1.2.1 then
      (some (((decide (p5.1.1 = u1)), ()), p5.2))
    else
      (some ((false, ()), p5.2)))
def rs_lock_Locks_Ready : Rs := [(.tmp 4, .bool)]
def ps_lock_Locks_Ready : List Ty := [.ptr, (.int .u64)]
theorem e_lock_Locks_Ready (n : Nat) (u0 : Option Addr) (u1 : Int) (h : Heap) : f_lock_Locks_Ready n u0 u1 h = fB (sf_lock_Locks_Ready n) (it_lock_Locks_Ready n) n c2_lock_Locks_Ready rs_lock_Locks_Ready ps_lock_Locks_Ready (u0, (u1, ())) h := by kernel_rfl
noncomputable def s_lock_Locks_Ready (n : Nat) : Sf1 := mkSf ps_lock_Locks_Ready rs_lock_Locks_Ready fun a h => f_lock_Locks_Ready n a.1 a.2.1 h

/- (*wicket/lock.Locks).Queue -/
def c2_lock_Locks_Queue : C2 :=
  .seq (.reg [(⟨(some 4), .move (.const (.slice none 0 0)), none⟩, .any)]) <|
  .seq (.seq (.cutn [(21, .bool)] <|
        .reg [(⟨(some 7), .move (.tmp 0), none⟩, .ptr),
          (⟨(some 8), .eqv false .ptr (.tmp 7) (.const (.pointer none)), none⟩, .bool),
          (⟨(some 9), .move (.tmp 8), none⟩, .bool),
          (⟨(some 10), .move (.tmp 1), some (9, false)⟩, (.int .i64)),
          (⟨(some 11), .bin .lss (.tmp 10) (.const (.int .i64 0)), some (9, false)⟩, .bool),
          (⟨(some 12), .pick (.tmp 9) (.const (.bool true)) (.tmp 11), none⟩, .bool),
          (⟨(some 13), .move (.tmp 12), none⟩, .bool),
          (⟨(some 14), .move (.tmp 1), some (13, false)⟩, (.int .i64)),
          (⟨(some 15), .move (.tmp 0), some (13, false)⟩, .ptr),
          (⟨(some 16), .nilCheck (.tmp 15), some (13, false)⟩, .ptr),
          (⟨(some 17), .fieldAddr 0 (.tmp 16), some (13, false)⟩, .ptr),
          (⟨(some 18), .load false 1 (.tmp 17), some (13, false)⟩, .any),
          (⟨(some 19), .lenS (.tmp 18), some (13, false)⟩, (.int .i64)),
          (⟨(some 20), .bin .geq (.tmp 14) (.tmp 19), some (13, false)⟩, .bool),
          (⟨(some 21), .pick (.tmp 13) (.const (.bool true)) (.tmp 20), none⟩, .bool)]) <|
    .cond (.tmp 21)
      (.seq (.reg [(⟨(some 4), .move (.const (.slice none 0 0)), none⟩, .any)]) <|
      .ret)
      (.skip)) <|
  .seq (.reg [(⟨(some 5), .alloc [(.slice none 0 0)], none⟩, .ptr)]) <|
  .seq (.seq (.reg [(⟨(some 22), .move (.tmp 0), none⟩, .ptr),
        (⟨(some 23), .nilCheck (.tmp 22), none⟩, .ptr),
        (⟨(some 24), .fieldAddr 0 (.tmp 23), none⟩, .ptr),
        (⟨(some 25), .load false 1 (.tmp 24), none⟩, .any),
        (⟨(some 26), .move (.tmp 1), none⟩, (.int .i64)),
        (⟨(some 27), .idxSlice 1 (.tmp 25) (.tmp 26), none⟩, .ptr),
        (⟨(some 28), .load false 1 (.tmp 27), none⟩, .ptr),
        (⟨(some 29), .call k_ticket_Queue_All [(.tmp 28)], none⟩, (.fn k_ticket_Queue_All_1 1))]) <|
    .block 0 <|
      .range (.tmp 29) [30] []
        (.reg [(⟨(some 6), .move (.tmp 30), none⟩, (.int .u64))])
        (.block 1 <|
          .reg [(⟨(some 31), .load false 1 (.tmp 5), none⟩, .any),
            (⟨(some 32), .move (.tmp 6), none⟩, (.int .u64)),
            (⟨(some 33), .buildSlice 1 1 [(.int .u64 0)] [(0, 1, (.tmp 32))], none⟩, .any),
            (⟨(some 34), .append 8 1 (.tmp 31) (.tmp 33), none⟩, .any),
            (⟨none, .store 1 (.tmp 5) (.tmp 34), none⟩, .any)])) <|
  .seq (.reg [(⟨(some 35), .load false 1 (.tmp 5), none⟩, .any),
      (⟨(some 4), .move (.tmp 35), none⟩, .any)]) <|
  .ret
def f_lock_Locks_Queue_B17 (n : Nat) (a3 : ((Bool × Unit) × Heap)) (y10 : Int) (v11 : (Heap × Nat)) : Option (Bool × (Heap × Nat)) :=
  bif Nat.beq v11.2 0 then
    ((ldT .any v11.1 (some (nwA a3.2))).bind fun x12 =>
    (fillL [(.int .u64 0)] [(0, 1, (.int .u64 y10))]).bind fun cs13 =>
    bnd ((Heap.new v11.1 (.cells cs13 false 1))) fun h14 =>
    (appendK h14 8 1 x12 (.slice (some ⟨Heap.next v11.1, 0, some 0⟩) 1 1)).bind fun p15 =>
    (stB 1 p15.1 p15.2 (some (nwA a3.2))).bind fun h16 =>
    some (true, (h16, 0)))
  else none
noncomputable def sf_lock_Locks_Queue (n : Nat) : Sf := sfOf [(k_ticket_Queue_All, s_ticket_Queue_All n)]
noncomputable def it_lock_Locks_Queue (n : Nat) : It := itOf [(k_ticket_Queue_All_1, i_ticket_Queue_All_1 n)]
def f_lock_Locks_Queue (n : Nat) (u0 : Option Addr) (u1 : Int) (h : Heap) : Option ((Value × Unit) × Heap) :=
  ((bif (Option.isNone u0) then
      (some ((true, ()), h))
    else
      (bif (decide (u1 < 0)) then
        (some ((true, ()), h))
      else
        ((u0).bind fun q0 =>
        (ldT .any h (some (fa q0 0))).bind fun x1 =>
        (lenB x1).bind fun n2 =>
        some (((decide ((n2 : Int) ≤ u1)), ()), h)))) : Option ((Bool × Unit) × Heap)).bind fun a3 =>
  bif a3.1.1 then
    (some (((.slice none 0 0), ()), a3.2))
  else
    (bnd ((Heap.new a3.2 (.cells [(.slice none 0 0)] false 0))) fun h4 =>
    (u0).bind fun q5 =>
    (ldT .any h4 (some (fa q5 0))).bind fun x6 =>
    (ixB 1 x6 u1).bind fun q7 =>
    (ldT .ptr h4 (some q7)).bind fun x8 =>
    (f_ticket_Queue_All n x8 h4).bind fun p9 =>
    (f_ticket_Queue_All_1 (V := (Heap × Nat)) (fun v => v.1) (fun v h => (h, v.2)) (fun a v => f_lock_Locks_Queue_B17 n a3 a.1 v) n p9.1.1.1 ((Heap.hole (Heap.hole p9.2)), 0)).bind fun v18 =>
    bif Nat.beq v18.2 0 then
      ((ldT .any v18.1 (some (nwA a3.2))).bind fun x19 =>
      bif !isTuple x19 then
        (some ((x19, ()), v18.1))
      else
        (none))
    else
      (none))
def rs_lock_Locks_Queue : Rs := [(.tmp 4, .any)]
def ps_lock_Locks_Queue : List Ty := [.ptr, (.int .i64)]
theorem e_lock_Locks_Queue (n : Nat) (u0 : Option Addr) (u1 : Int) (h : Heap) : f_lock_Locks_Queue n u0 u1 h = fB (sf_lock_Locks_Queue n) (it_lock_Locks_Queue n) n c2_lock_Locks_Queue rs_lock_Locks_Queue ps_lock_Locks_Queue (u0, (u1, ())) h := by kernel_rfl
noncomputable def s_lock_Locks_Queue (n : Nat) : Sf1 := mkSf ps_lock_Locks_Queue rs_lock_Locks_Queue fun a h => f_lock_Locks_Queue n a.1 a.2.1 h

/- (*wicket/ticket.Queue).Drop -/
def c2_ticket_Queue_Drop : C2 :=
  .seq (.reg [(⟨(some 4), .move (.const (.int .i64 0)), none⟩, (.int .i64))]) <|
  .seq (.seq (.reg [(⟨(some 6), .move (.tmp 0), none⟩, .ptr),
        (⟨(some 7), .eqv false .ptr (.tmp 6) (.const (.pointer none)), none⟩, .bool)]) <|
    .cond (.tmp 7)
      (.seq (.reg [(⟨(some 4), .move (.const (.int .i64 1)), none⟩, (.int .i64))]) <|
      .ret)
      (.skip)) <|
  .seq (.reg [(⟨(some 8), .move (.tmp 0), none⟩, .ptr),
      (⟨(some 9), .move (.tmp 1), none⟩, (.int .u64)),
      (⟨(some 10), .call k_ticket_Queue_Place [(.tmp 8), (.tmp 9)], none⟩, (.int .i64)),
      (⟨(some 5), .move (.tmp 10), none⟩, (.int .i64))]) <|
  .seq (.seq (.reg [(⟨(some 11), .move (.tmp 5), none⟩, (.int .i64)),
        (⟨(some 12), .bin .lss (.tmp 11) (.const (.int .i64 0)), none⟩, .bool)]) <|
    .cond (.tmp 12)
      (.seq (.reg [(⟨(some 4), .move (.const (.int .i64 110)), none⟩, (.int .i64))]) <|
      .ret)
      (.skip)) <|
  .seq (.reg [(⟨(some 13), .move (.tmp 0), none⟩, .ptr),
      (⟨(some 14), .move (.tmp 0), none⟩, .ptr),
      (⟨(some 15), .nilCheck (.tmp 14), none⟩, .ptr),
      (⟨(some 16), .fieldAddr 0 (.tmp 15), none⟩, .ptr),
      (⟨(some 17), .load false 1 (.tmp 16), none⟩, .any),
      (⟨(some 18), .move (.tmp 5), none⟩, (.int .i64)),
      (⟨(some 19), .move (.tmp 5), none⟩, (.int .i64)),
      (⟨(some 20), .bin .add (.tmp 19) (.const (.int .i64 1)), none⟩, (.int .i64)),
      (⟨(some 21), .call k_slices_Delete_uint64_uint64 [(.tmp 17), (.tmp 18), (.tmp 20)], none⟩, .any),
      (⟨(some 22), .nilCheck (.tmp 13), none⟩, .ptr),
      (⟨(some 23), .fieldAddr 0 (.tmp 22), none⟩, .ptr),
      (⟨none, .store 1 (.tmp 23) (.tmp 21), none⟩, .any)]) <|
  .seq (.reg [(⟨(some 4), .move (.const (.int .i64 0)), none⟩, (.int .i64))]) <|
  .ret
noncomputable def sf_ticket_Queue_Drop (n : Nat) : Sf := sfOf [(k_ticket_Queue_Place, s_ticket_Queue_Place n), (k_slices_Delete_uint64_uint64, s_slices_Delete_uint64_uint64 n)]
noncomputable def it_ticket_Queue_Drop (n : Nat) : It := itOf []
def f_ticket_Queue_Drop (n : Nat) (u0 : Option Addr) (u1 : Int) (h : Heap) : Option ((Int × Unit) × Heap) :=
  bif (Option.isNone u0) then
    (some ((1, ()), h))
  else
    ((f_ticket_Queue_Place n u0 u1 h).bind fun p0 =>
    bif (decide (p0.1.1 < 0)) then
      (some ((110, ()), p0.2))
    else
      ((u0).bind fun q1 =>
      (ldT .any p0.2 (some (fa q1 0))).bind fun x2 =>
      (f_slices_Delete_uint64_uint64 n x2 p0.1.1 (IntKind.i64.wrap (p0.1.1 + 1)) p0.2).bind fun p3 =>
      (u0).bind fun q4 =>
      (stB 1 p3.1.1 p3.2 (some (fa q4 0))).bind fun h5 =>
      some ((0, ()), h5)))
def rs_ticket_Queue_Drop : Rs := [(.tmp 4, (.int .i64))]
def ps_ticket_Queue_Drop : List Ty := [.ptr, (.int .u64)]
theorem e_ticket_Queue_Drop (n : Nat) (u0 : Option Addr) (u1 : Int) (h : Heap) : f_ticket_Queue_Drop n u0 u1 h = fB (sf_ticket_Queue_Drop n) (it_ticket_Queue_Drop n) n c2_ticket_Queue_Drop rs_ticket_Queue_Drop ps_ticket_Queue_Drop (u0, (u1, ())) h := by kernel_rfl
noncomputable def s_ticket_Queue_Drop (n : Nat) : Sf1 := mkSf ps_ticket_Queue_Drop rs_ticket_Queue_Drop fun a h => f_ticket_Queue_Drop n a.1 a.2.1 h

/- (*wicket/lock.Locks).Holder -/
def c2_lock_Locks_Holder : C2 :=
  .seq (.reg [(⟨(some 4), .move (.const (.int .u64 0)), none⟩, (.int .u64)),
      (⟨(some 5), .move (.const (.bool false)), none⟩, .bool)]) <|
  .seq (.seq (.cutn [(22, .bool)] <|
        .reg [(⟨(some 8), .move (.tmp 0), none⟩, .ptr),
          (⟨(some 9), .eqv false .ptr (.tmp 8) (.const (.pointer none)), none⟩, .bool),
          (⟨(some 10), .move (.tmp 9), none⟩, .bool),
          (⟨(some 11), .move (.tmp 1), some (10, false)⟩, (.int .i64)),
          (⟨(some 12), .bin .lss (.tmp 11) (.const (.int .i64 0)), some (10, false)⟩, .bool),
          (⟨(some 13), .pick (.tmp 10) (.const (.bool true)) (.tmp 12), none⟩, .bool),
          (⟨(some 14), .move (.tmp 13), none⟩, .bool),
          (⟨(some 15), .move (.tmp 1), some (14, false)⟩, (.int .i64)),
          (⟨(some 16), .move (.tmp 0), some (14, false)⟩, .ptr),
          (⟨(some 17), .nilCheck (.tmp 16), some (14, false)⟩, .ptr),
          (⟨(some 18), .fieldAddr 0 (.tmp 17), some (14, false)⟩, .ptr),
          (⟨(some 19), .load false 1 (.tmp 18), some (14, false)⟩, .any),
          (⟨(some 20), .lenS (.tmp 19), some (14, false)⟩, (.int .i64)),
          (⟨(some 21), .bin .geq (.tmp 15) (.tmp 20), some (14, false)⟩, .bool),
          (⟨(some 22), .pick (.tmp 14) (.const (.bool true)) (.tmp 21), none⟩, .bool)]) <|
    .cond (.tmp 22)
      (.seq (.reg [(⟨(some 4), .move (.const (.int .u64 0)), none⟩, (.int .u64)),
          (⟨(some 5), .move (.const (.bool false)), none⟩, .bool)]) <|
      .ret)
      (.skip)) <|
  .seq (.reg [(⟨(some 24), .move (.tmp 0), none⟩, .ptr),
      (⟨(some 25), .nilCheck (.tmp 24), none⟩, .ptr),
      (⟨(some 26), .fieldAddr 0 (.tmp 25), none⟩, .ptr),
      (⟨(some 27), .load false 1 (.tmp 26), none⟩, .any),
      (⟨(some 28), .move (.tmp 1), none⟩, (.int .i64)),
      (⟨(some 29), .idxSlice 1 (.tmp 27) (.tmp 28), none⟩, .ptr),
      (⟨(some 30), .load false 1 (.tmp 29), none⟩, .ptr),
      (⟨(some 31), .call k_ticket_Queue_First [(.tmp 30)], none⟩, .any),
      (⟨(some 23), .move (.tmp 31), none⟩, .any),
      (⟨(some 32), .extract (.tmp 23) 0, none⟩, (.int .u64)),
      (⟨(some 33), .extract (.tmp 23) 1, none⟩, .bool),
      (⟨(some 6), .move (.tmp 32), none⟩, (.int .u64)),
      (⟨(some 7), .move (.tmp 33), none⟩, .bool)]) <|
  .seq (.seq (.cutn [(43, .bool)] <|
        .reg [(⟨(some 34), .move (.tmp 7), none⟩, .bool),
          (⟨(some 35), .un .not (.tmp 34), none⟩, .bool),
          (⟨(some 36), .move (.tmp 35), none⟩, .bool),
          (⟨(some 37), .move (.tmp 0), some (36, false)⟩, .ptr),
          (⟨(some 38), .move (.tmp 6), some (36, false)⟩, (.int .u64)),
          (⟨(some 39), .call k_lock_Locks_Held [(.tmp 37), (.tmp 38)], some (36, false)⟩, .any),
          (⟨(some 40), .move (.tmp 1), some (36, false)⟩, (.int .i64)),
          (⟨(some 41), .call k_slices_Contains_int_int [(.tmp 39), (.tmp 40)], some (36, false)⟩, .bool),
          (⟨(some 42), .un .not (.tmp 41), some (36, false)⟩, .bool),
          (⟨(some 43), .pick (.tmp 36) (.const (.bool true)) (.tmp 42), none⟩, .bool)]) <|
    .cond (.tmp 43)
      (.seq (.reg [(⟨(some 4), .move (.const (.int .u64 0)), none⟩, (.int .u64)),
          (⟨(some 5), .move (.const (.bool false)), none⟩, .bool)]) <|
      .ret)
      (.skip)) <|
  .seq (.reg [(⟨(some 44), .move (.tmp 6), none⟩, (.int .u64)),
      (⟨(some 4), .move (.tmp 44), none⟩, (.int .u64)),
      (⟨(some 5), .move (.const (.bool true)), none⟩, .bool)]) <|
  .ret
noncomputable def sf_lock_Locks_Holder (n : Nat) : Sf := sfOf [(k_ticket_Queue_First, s_ticket_Queue_First n), (k_lock_Locks_Held, s_lock_Locks_Held n), (k_slices_Contains_int_int, s_slices_Contains_int_int n)]
noncomputable def it_lock_Locks_Holder (n : Nat) : It := itOf []
def f_lock_Locks_Holder (n : Nat) (u0 : Option Addr) (u1 : Int) (h : Heap) : Option ((Int × Bool × Unit) × Heap) :=
  ((bif (Option.isNone u0) then
      (some ((true, ()), h))
    else
      (bif (decide (u1 < 0)) then
        (some ((true, ()), h))
      else
        ((u0).bind fun q0 =>
        (ldT .any h (some (fa q0 0))).bind fun x1 =>
        (lenB x1).bind fun n2 =>
        some (((decide ((n2 : Int) ≤ u1)), ()), h)))) : Option ((Bool × Unit) × Heap)).bind fun a3 =>
  bif a3.1.1 then
    (some ((0, (false, ())), a3.2))
  else
    ((u0).bind fun q4 =>
    (ldT .any a3.2 (some (fa q4 0))).bind fun x5 =>
    (ixB 1 x5 u1).bind fun q6 =>
    (ldT .ptr a3.2 (some q6)).bind fun x7 =>
    (f_ticket_Queue_First n x7 a3.2).bind fun p8 =>
    ((bif (!p8.1.2.1) then
        (some ((true, ()), p8.2))
      else
        ((f_lock_Locks_Held n u0 p8.1.1 p8.2).bind fun p9 =>
        (f_slices_Contains_int_int n p9.1.1 u1 p9.2).bind fun p10 =>
        some (((!p10.1.1), ()), p10.2))) : Option ((Bool × Unit) × Heap)).bind fun a11 =>
    bif a11.1.1 then
      (some ((0, (false, ())), a11.2))
    else
      (some ((p8.1.1, (true, ())), a11.2)))
def rs_lock_Locks_Holder : Rs := [(.tmp 4, (.int .u64)), (.tmp 5, .bool)]
def ps_lock_Locks_Holder : List Ty := [.ptr, (.int .i64)]
theorem e_lock_Locks_Holder (n : Nat) (u0 : Option Addr) (u1 : Int) (h : Heap) : f_lock_Locks_Holder n u0 u1 h = fB (sf_lock_Locks_Holder n) (it_lock_Locks_Holder n) n c2_lock_Locks_Holder rs_lock_Locks_Holder ps_lock_Locks_Holder (u0, (u1, ())) h := by kernel_rfl
noncomputable def s_lock_Locks_Holder (n : Nat) : Sf1 := mkSf ps_lock_Locks_Holder rs_lock_Locks_Holder fun a h => f_lock_Locks_Holder n a.1 a.2.1 h

/- (*wicket/lock.Locks).Take -/
def c2_lock_Locks_Take : C2 :=
  .seq (.reg [(⟨(some 4), .move (.const (.int .i64 0)), none⟩, (.int .i64)),
      (⟨(some 5), .move (.const (.int .i64 0)), none⟩, (.int .i64))]) <|
  .seq (.seq (.reg [(⟨(some 10), .move (.tmp 0), none⟩, .ptr),
        (⟨(some 11), .eqv false .ptr (.tmp 10) (.const (.pointer none)), none⟩, .bool)]) <|
    .cond (.tmp 11)
      (.seq (.reg [(⟨(some 4), .move (.const (.int .i64 0)), none⟩, (.int .i64)),
          (⟨(some 5), .move (.const (.int .i64 1)), none⟩, (.int .i64))]) <|
      .ret)
      (.skip)) <|
  .seq (.reg [(⟨(some 13), .move (.tmp 0), none⟩, .ptr),
      (⟨(some 14), .nilCheck (.tmp 13), none⟩, .ptr),
      (⟨(some 15), .fieldAddr 2 (.tmp 14), none⟩, .ptr),
      (⟨(some 16), .load false 1 (.tmp 15), none⟩, .any),
      (⟨(some 17), .move (.tmp 1), none⟩, (.int .u64)),
      (⟨(some 18), .lookup .u64 (.agg ⟨[(.slice none 0 0), (.int .i64 0)]⟩) (.tmp 16) (.tmp 17) true, none⟩, .any),
      (⟨(some 12), .move (.tmp 18), none⟩, .any),
      (⟨(some 19), .extract (.tmp 12) 0, none⟩, .any),
      (⟨(some 20), .extract (.tmp 12) 1, none⟩, .bool),
      (⟨(some 6), .alloc [(.slice none 0 0), (.int .i64 0)], none⟩, .ptr),
      (⟨none, .store 2 (.tmp 6) (.tmp 19), none⟩, .any),
      (⟨(some 7), .move (.tmp 20), none⟩, .bool)]) <|
  .seq (.reg [(⟨(some 22), .fieldAddr 0 (.tmp 6), none⟩, .ptr),
      (⟨(some 23), .load false 1 (.tmp 22), none⟩, .any),
      (⟨(some 24), .fieldAddr 1 (.tmp 6), none⟩, .ptr),
      (⟨(some 25), .load false 1 (.tmp 24), none⟩, (.int .i64)),
      (⟨(some 26), .call k_blocks_Next [(.tmp 23), (.tmp 25)], none⟩, .any),
      (⟨(some 21), .move (.tmp 26), none⟩, .any),
      (⟨(some 27), .extract (.tmp 21) 0, none⟩, (.int .i64)),
      (⟨(some 28), .extract (.tmp 21) 1, none⟩, .bool),
      (⟨(some 8), .move (.tmp 27), none⟩, (.int .i64)),
      (⟨(some 9), .move (.tmp 28), none⟩, .bool)]) <|
  .seq (.block 0 <|
      .seq (.reg [(⟨(some 30), .move (.tmp 7), none⟩, .bool),
          (⟨(some 31), .un .not (.tmp 30), none⟩, .bool),
          (⟨(some 29), .move (.tmp 31), none⟩, .bool)]) <|
      .cond (.tmp 29)
        (.seq (.reg [(⟨(some 4), .move (.const (.int .i64 0)), none⟩, (.int .i64)),
            (⟨(some 5), .move (.const (.int .i64 110)), none⟩, (.int .i64))]) <|
        .ret)
        (.seq (.reg [(⟨(some 33), .move (.tmp 9), none⟩, .bool),
            (⟨(some 34), .un .not (.tmp 33), none⟩, .bool),
            (⟨(some 32), .move (.tmp 34), none⟩, .bool)]) <|
        .cond (.tmp 32)
          (.seq (.reg [(⟨(some 4), .move (.const (.int .i64 0)), none⟩, (.int .i64)),
              (⟨(some 5), .move (.const (.int .i64 180)), none⟩, (.int .i64))]) <|
          .ret)
          (.seq (.reg [(⟨(some 36), .move (.tmp 0), none⟩, .ptr),
              (⟨(some 37), .move (.tmp 1), none⟩, (.int .u64)),
              (⟨(some 38), .call k_lock_Locks_Ready [(.tmp 36), (.tmp 37)], none⟩, .bool),
              (⟨(some 39), .un .not (.tmp 38), none⟩, .bool),
              (⟨(some 35), .move (.tmp 39), none⟩, .bool)]) <|
          .cond (.tmp 35)
            (.seq (.reg [(⟨(some 4), .move (.const (.int .i64 0)), none⟩, (.int .i64)),
                (⟨(some 5), .move (.const (.int .i64 130)), none⟩, (.int .i64))]) <|
            .ret)
            (.skip)))) <|
  .seq (.reg [(⟨(some 40), .fieldAddr 1 (.tmp 6), none⟩, .ptr),
      (⟨(some 41), .load false 1 (.tmp 40), none⟩, (.int .i64)),
      (⟨(some 42), .bin .add (.tmp 41) (.const (.int .i64 1)), none⟩, (.int .i64)),
      (⟨(some 43), .fieldAddr 1 (.tmp 6), none⟩, .ptr),
      (⟨none, .store 1 (.tmp 43) (.tmp 42), none⟩, .any)]) <|
  .seq (.regd [(⟨0, [], false, ⟨(some 44), .move (.tmp 0), none⟩⟩, .ptr),
      (⟨1, [0], false, ⟨(some 45), .nilCheck (.tmp 44), none⟩⟩, .ptr),
      (⟨2, [1, 0], false, ⟨(some 46), .fieldAddr 2 (.tmp 45), none⟩⟩, .ptr),
      (⟨3, [2, 1, 0], false, ⟨(some 47), .load false 1 (.tmp 46), none⟩⟩, .any),
      (⟨4, [], false, ⟨(some 48), .move (.tmp 1), none⟩⟩, (.int .u64)),
      (⟨5, [], false, ⟨(some 49), .load true 2 (.tmp 6), none⟩⟩, .any),
      (⟨6, [3, 4, 5, 0, 1, 2], true, ⟨none, .mapUpdate .u64 (.tmp 47) (.tmp 48) (.tmp 49), none⟩⟩, .any)]) <|
  .seq (.reg [(⟨(some 50), .move (.tmp 8), none⟩, (.int .i64)),
      (⟨(some 4), .move (.tmp 50), none⟩, (.int .i64)),
      (⟨(some 5), .move (.const (.int .i64 0)), none⟩, (.int .i64))]) <|
  .ret
noncomputable def sf_lock_Locks_Take (n : Nat) : Sf := sfOf [(k_blocks_Next, s_blocks_Next n), (k_lock_Locks_Ready, s_lock_Locks_Ready n)]
noncomputable def it_lock_Locks_Take (n : Nat) : It := itOf []
def f_lock_Locks_Take (n : Nat) (u0 : Option Addr) (u1 : Int) (h : Heap) : Option ((Int × Int × Unit) × Heap) :=
  bif (Option.isNone u0) then
    (some ((0, (1, ())), h))
  else
    ((u0).bind fun q0 =>
    (ldT .any h (some (fa q0 2))).bind fun x1 =>
    (lkT .any h .u64 (.agg ⟨[(.slice none 0 0), (.int .i64 0)]⟩) x1 u1).bind fun p2 =>
    bnd ((Heap.new h (.cells [(.slice none 0 0), (.int .i64 0)] false 0))) fun h3 =>
    (stB 2 p2.1 h3 (some (nwA h))).bind fun h4 =>
    (ldT .any h4 (some (fa (nwA h) 0))).bind fun x5 =>
    (ldT (.int .i64) h4 (some (fa (nwA h) 1))).bind fun x6 =>
    (f_blocks_Next n x5 x6 h4).bind fun p7 =>
    bif (!p2.2) then
      (some ((0, (110, ())), p7.2))
    else
      (bif (!p7.1.2.1) then
        (some ((0, (180, ())), p7.2))
      else
        ((f_lock_Locks_Ready n u0 u1 p7.2).bind fun p8 =>
        bif (!p8.1.1) then
          (some ((0, (130, ())), p8.2))
        else
          ((ldT (.int .i64) p8.2 (some (fa (nwA h) 1))).bind fun x9 =>
          (stB 1 (.int .i64 (IntKind.i64.wrap (x9 + 1))) p8.2 (some (fa (nwA h) 1))).bind fun h10 =>
          (u0).bind fun q11 =>
          (ldT .any h10 (some (fa q11 2))).bind fun x12 =>
          (ldA 2 h10 (some (nwA h))).bind fun cs13 =>
          (mapUpdateK h10 .u64 x12 (.int .u64 u1) (.agg ⟨cs13⟩)).bind fun p14 =>
          some ((p7.1.1, (0, ())), p14.2)))))
def rs_lock_Locks_Take : Rs := [(.tmp 4, (.int .i64)), (.tmp 5, (.int .i64))]
def ps_lock_Locks_Take : List Ty := [.ptr, (.int .u64)]
theorem e_lock_Locks_Take (n : Nat) (u0 : Option Addr) (u1 : Int) (h : Heap) : f_lock_Locks_Take n u0 u1 h = fB (sf_lock_Locks_Take n) (it_lock_Locks_Take n) n c2_lock_Locks_Take rs_lock_Locks_Take ps_lock_Locks_Take (u0, (u1, ())) h := by kernel_rfl
noncomputable def s_lock_Locks_Take (n : Nat) : Sf1 := mkSf ps_lock_Locks_Take rs_lock_Locks_Take fun a h => f_lock_Locks_Take n a.1 a.2.1 h

/- (*wicket/lock.Locks).Drop -/
def c2_lock_Locks_Drop : C2 :=
  .seq (.reg [(⟨(some 4), .move (.const (.int .i64 0)), none⟩, (.int .i64)),
      (⟨(some 5), .move (.const (.int .i64 0)), none⟩, (.int .i64))]) <|
  .seq (.seq (.reg [(⟨(some 10), .move (.tmp 0), none⟩, .ptr),
        (⟨(some 11), .eqv false .ptr (.tmp 10) (.const (.pointer none)), none⟩, .bool)]) <|
    .cond (.tmp 11)
      (.seq (.reg [(⟨(some 4), .move (.const (.int .i64 0)), none⟩, (.int .i64)),
          (⟨(some 5), .move (.const (.int .i64 1)), none⟩, (.int .i64))]) <|
      .ret)
      (.skip)) <|
  .seq (.reg [(⟨(some 13), .move (.tmp 0), none⟩, .ptr),
      (⟨(some 14), .nilCheck (.tmp 13), none⟩, .ptr),
      (⟨(some 15), .fieldAddr 2 (.tmp 14), none⟩, .ptr),
      (⟨(some 16), .load false 1 (.tmp 15), none⟩, .any),
      (⟨(some 17), .move (.tmp 1), none⟩, (.int .u64)),
      (⟨(some 18), .lookup .u64 (.agg ⟨[(.slice none 0 0), (.int .i64 0)]⟩) (.tmp 16) (.tmp 17) true, none⟩, .any),
      (⟨(some 12), .move (.tmp 18), none⟩, .any),
      (⟨(some 19), .extract (.tmp 12) 0, none⟩, .any),
      (⟨(some 20), .extract (.tmp 12) 1, none⟩, .bool),
      (⟨(some 6), .alloc [(.slice none 0 0), (.int .i64 0)], none⟩, .ptr),
      (⟨none, .store 2 (.tmp 6) (.tmp 19), none⟩, .any),
      (⟨(some 7), .move (.tmp 20), none⟩, .bool)]) <|
  .seq (.seq (.reg [(⟨(some 21), .move (.tmp 7), none⟩, .bool),
        (⟨(some 22), .un .not (.tmp 21), none⟩, .bool)]) <|
    .cond (.tmp 22)
      (.seq (.reg [(⟨(some 4), .move (.const (.int .i64 0)), none⟩, (.int .i64)),
          (⟨(some 5), .move (.const (.int .i64 110)), none⟩, (.int .i64))]) <|
      .ret)
      (.skip)) <|
  .seq (.cutn [] <|
      .seq (.reg [(⟨(some 23), .fieldAddr 0 (.tmp 6), none⟩, .ptr),
          (⟨(some 24), .load false 1 (.tmp 23), none⟩, .any),
          (⟨(some 25), .lenS (.tmp 24), none⟩, (.int .i64)),
          (⟨(some 26), .move (.const (.int .i64 0)), none⟩, (.int .i64))]) <|
      .block 0 <|
        .loop [(26, (.int .i64))] <|
          .seq (.reg [(⟨(some 27), .bin .lss (.tmp 26) (.tmp 25), none⟩, .any)]) <|
          .seq (.cond (.tmp 27)
              (.skip)
              (.exit 0)) <|
          .seq (.block 1 <|
              .seq (.reg [(⟨(some 28), .idxSlice 1 (.tmp 24) (.tmp 26), none⟩, .ptr),
                  (⟨(some 29), .load false 1 (.tmp 28), none⟩, (.int .i64)),
                  (⟨(some 9), .move (.tmp 29), none⟩, (.int .i64))]) <|
              .reg [(⟨(some 30), .move (.tmp 0), none⟩, .ptr),
                (⟨(some 31), .nilCheck (.tmp 30), none⟩, .ptr),
                (⟨(some 32), .fieldAddr 0 (.tmp 31), none⟩, .ptr),
                (⟨(some 33), .load false 1 (.tmp 32), none⟩, .any),
                (⟨(some 34), .move (.tmp 9), none⟩, (.int .i64)),
                (⟨(some 35), .idxSlice 1 (.tmp 33) (.tmp 34), none⟩, .ptr),
                (⟨(some 36), .load false 1 (.tmp 35), none⟩, .ptr),
                (⟨(some 37), .move (.tmp 1), none⟩, (.int .u64)),
                (⟨(some 38), .call k_ticket_Queue_Drop [(.tmp 36), (.tmp 37)], none⟩, (.int .i64))]) <|
          .reg [(⟨(some 39), .bin .add (.tmp 26) (.const (.int .i64 1)), none⟩, (.int .i64)),
            (⟨(some 26), .move (.tmp 39), none⟩, (.int .i64))]) <|
  .seq (.reg [(⟨(some 40), .move (.tmp 0), none⟩, .ptr),
      (⟨(some 41), .nilCheck (.tmp 40), none⟩, .ptr),
      (⟨(some 42), .fieldAddr 2 (.tmp 41), none⟩, .ptr),
      (⟨(some 43), .load false 1 (.tmp 42), none⟩, .any),
      (⟨(some 44), .move (.tmp 1), none⟩, (.int .u64)),
      (⟨none, .delete .u64 (.tmp 43) (.tmp 44), none⟩, .any)]) <|
  .seq (.reg [(⟨(some 45), .fieldAddr 1 (.tmp 6), none⟩, .ptr),
      (⟨(some 46), .load false 1 (.tmp 45), none⟩, (.int .i64)),
      (⟨(some 4), .move (.tmp 46), none⟩, (.int .i64)),
      (⟨(some 5), .move (.const (.int .i64 0)), none⟩, (.int .i64))]) <|
  .ret
def f_lock_Locks_Drop_L16 (n : Nat) (u1 : Int) (u0 : Option Addr) (x5 : Value) (n6 : Nat) (v7 : Int) (h8 : Heap) : Option (((Int × Unit) × Heap) ⊕ ((Unit) × Heap)) :=
  bif (decide (v7 < (n6 : Int))) then
    ((ixB 1 x5 v7).bind fun q9 =>
    (ldT (.int .i64) h8 (some q9)).bind fun x10 =>
    (u0).bind fun q11 =>
    (ldT .any h8 (some (fa q11 0))).bind fun x12 =>
    (ixB 1 x12 x10).bind fun q13 =>
    (ldT .ptr h8 (some q13)).bind fun x14 =>
    (f_ticket_Queue_Drop n x14 u1 h8).bind fun p15 =>
    some (.inl (((IntKind.i64.wrap (v7 + 1)), ()), p15.2)))
  else
    (some (.inr ((), h8)))
noncomputable def sf_lock_Locks_Drop (n : Nat) : Sf := sfOf [(k_ticket_Queue_Drop, s_ticket_Queue_Drop n)]
noncomputable def it_lock_Locks_Drop (n : Nat) : It := itOf []
def f_lock_Locks_Drop (n : Nat) (u0 : Option Addr) (u1 : Int) (h : Heap) : Option ((Int × Int × Unit) × Heap) :=
  bif (Option.isNone u0) then
    (some ((0, (1, ())), h))
  else
    ((u0).bind fun q0 =>
    (ldT .any h (some (fa q0 2))).bind fun x1 =>
    (lkT .any h .u64 (.agg ⟨[(.slice none 0 0), (.int .i64 0)]⟩) x1 u1).bind fun p2 =>
    bnd ((Heap.new h (.cells [(.slice none 0 0), (.int .i64 0)] false 0))) fun h3 =>
    (stB 2 p2.1 h3 (some (nwA h))).bind fun h4 =>
    bif (!p2.2) then
      (some ((0, (110, ())), h4))
    else
      ((((ldT .any h4 (some (fa (nwA h) 0))).bind fun x5 =>
        (lenB x5).bind fun n6 =>
        loopT (fun a => f_lock_Locks_Drop_L16 n u1 u0 x5 n6 a.1.1 a.2) n ((0, ()), h4)) : Option ((Unit) × Heap)).bind fun a17 =>
      (u0).bind fun q18 =>
      (ldT .any a17.2 (some (fa q18 2))).bind fun x19 =>
      (deleteK a17.2 .u64 x19 (.int .u64 u1)).bind fun p20 =>
      (ldT (.int .i64) p20.2 (some (fa (nwA h) 1))).bind fun x21 =>
      some ((x21, (0, ())), p20.2)))
def rs_lock_Locks_Drop : Rs := [(.tmp 4, (.int .i64)), (.tmp 5, (.int .i64))]
def ps_lock_Locks_Drop : List Ty := [.ptr, (.int .u64)]
theorem e_lock_Locks_Drop (n : Nat) (u0 : Option Addr) (u1 : Int) (h : Heap) : f_lock_Locks_Drop n u0 u1 h = fB (sf_lock_Locks_Drop n) (it_lock_Locks_Drop n) n c2_lock_Locks_Drop rs_lock_Locks_Drop ps_lock_Locks_Drop (u0, (u1, ())) h := by kernel_rfl
noncomputable def s_lock_Locks_Drop (n : Nat) : Sf1 := mkSf ps_lock_Locks_Drop rs_lock_Locks_Drop fun a h => f_lock_Locks_Drop n a.1 a.2.1 h

/- wicket/wicketlaw14.fair -/
def c2_wicketlaw14_fair : C2 :=
  .seq (.reg [(⟨(some 10), .move (.const (.bool false)), none⟩, .bool)]) <|
  .seq (.reg [(⟨(some 11), .move (.const (.bool true)), none⟩, .bool)]) <|
  .seq (.cut [] <|
      .seq (.reg [(⟨(some 22), .move (.tmp 2), none⟩, .any),
          (⟨(some 23), .lenS (.tmp 22), none⟩, (.int .i64)),
          (⟨(some 24), .move (.const (.int .i64 0)), none⟩, (.int .i64))]) <|
      .block 0 <|
        .loop [(11, .bool), (24, (.int .i64))] <|
          .seq (.reg [(⟨(some 25), .bin .lss (.tmp 24) (.tmp 23), none⟩, .any)]) <|
          .seq (.cond (.tmp 25)
              (.skip)
              (.exit 0)) <|
          .seq (.cut [(11, .bool)] <|
              .block 1 <|
                .seq (.reg [(⟨(some 26), .move (.tmp 24), none⟩, (.int .i64)),
                    (⟨(some 12), .move (.tmp 26), none⟩, (.int .i64))]) <|
                .seq (.seq (.reg [(⟨(some 27), .move (.tmp 4), none⟩, .any),
                      (⟨(some 28), .move (.tmp 12), none⟩, (.int .i64)),
                      (⟨(some 29), .idxSlice 1 (.tmp 27) (.tmp 28), none⟩, .ptr),
                      (⟨(some 30), .load false 1 (.tmp 29), none⟩, .bool)]) <|
                  .cond (.tmp 30)
                    (.exit 1)
                    (.skip)) <|
                .seq (.reg [(⟨(some 31), .move (.tmp 12), none⟩, (.int .i64)),
                    (⟨(some 32), .bin .add (.tmp 31) (.const (.int .i64 1)), none⟩, (.int .i64)),
                    (⟨(some 33), .conv .u64 (.tmp 32), none⟩, (.int .u64)),
                    (⟨(some 13), .move (.tmp 33), none⟩, (.int .u64))]) <|
                .seq (.seq (.cutn [(68, .bool)] <|
                      .regd [(⟨0, [], false, ⟨(some 34), .move (.tmp 0), none⟩⟩, .ptr),
                        (⟨1, [], false, ⟨(some 35), .move (.tmp 13), none⟩⟩, (.int .u64)),
                        (⟨3, [], false, ⟨(some 37), .move (.tmp 2), none⟩⟩, .any),
                        (⟨4, [], false, ⟨(some 38), .move (.tmp 12), none⟩⟩, (.int .i64)),
                        (⟨5, [3, 4], false, ⟨(some 39), .idxSlice 1 (.tmp 37) (.tmp 38), none⟩⟩, .ptr),
                        (⟨6, [5, 3, 4], false, ⟨(some 40), .load false 1 (.tmp 39), none⟩⟩, .any),
                        (⟨7, [], false, ⟨(some 41), .move (.tmp 3), none⟩⟩, .any),
                        (⟨8, [], false, ⟨(some 42), .move (.tmp 12), none⟩⟩, (.int .i64)),
                        (⟨9, [7, 8], false, ⟨(some 43), .idxSlice 1 (.tmp 41) (.tmp 42), none⟩⟩, .ptr),
                        (⟨10, [9, 7, 8], false, ⟨(some 44), .load false 1 (.tmp 43), none⟩⟩, (.int .i64)),
                        (⟨11, [6, 10, 5, 3, 4, 9, 7, 8], false, ⟨(some 45), .slice 1 (.tmp 40) none (some (.tmp 44)) none, none⟩⟩, .any),
                        (⟨2, [0, 1], true, ⟨(some 36), .call k_lock_Locks_Held [(.tmp 34), (.tmp 35)], none⟩⟩, .any),
                        (⟨12, [2, 11, 0, 1, 6, 10, 5, 3, 4, 9, 7, 8], true, ⟨(some 46), .call k_wicketlaw14_sameInts [(.tmp 36), (.tmp 45)], none⟩⟩, .bool),
                        (⟨13, [12, 2, 11, 0, 1, 6, 10, 5, 3, 4, 9, 7, 8], false, ⟨(some 47), .un .not (.tmp 46), none⟩⟩, .bool),
                        (⟨14, [13, 12, 2, 11, 0, 1, 6, 10, 5, 3, 4, 9, 7, 8], false, ⟨(some 48), .move (.tmp 47), none⟩⟩, .bool),
                        (⟨15, [14, 13, 12, 2, 11, 0, 1, 6, 10, 5, 3, 4, 9, 7, 8], false, ⟨(some 49), .move (.tmp 11), some (48, false)⟩⟩, .bool),
                        (⟨16, [15, 14, 13, 12, 2, 11, 0, 1, 6, 10, 5, 3, 4, 9, 7, 8], false, ⟨(some 50), .move (.tmp 49), some (48, false)⟩⟩, .bool),
                        (⟨17, [16, 15, 14, 13, 12, 2, 11, 0, 1, 6, 10, 5, 3, 4, 9, 7, 8], false, ⟨(some 51), .move (.tmp 3), some (50, true)⟩⟩, .any),
                        (⟨18, [16, 15, 14, 13, 12, 2, 11, 0, 1, 6, 10, 5, 3, 4, 9, 7, 8], false, ⟨(some 52), .move (.tmp 12), some (50, true)⟩⟩, (.int .i64)),
                        (⟨19, [17, 18, 16, 15, 14, 13, 12, 2, 11, 0, 1, 6, 10, 5, 3, 4, 9, 7, 8], false, ⟨(some 53), .idxSlice 1 (.tmp 51) (.tmp 52), some (50, true)⟩⟩, .ptr),
                        (⟨20, [19, 16, 17, 18, 15, 14, 13, 12, 2, 11, 0, 1, 6, 10, 5, 3, 4, 9, 7, 8], false, ⟨(some 54), .load false 1 (.tmp 53), some (50, true)⟩⟩, (.int .i64)),
                        (⟨21, [16, 15, 14, 13, 12, 2, 11, 0, 1, 6, 10, 5, 3, 4, 9, 7, 8], false, ⟨(some 55), .move (.tmp 2), some (50, true)⟩⟩, .any),
                        (⟨22, [16, 15, 14, 13, 12, 2, 11, 0, 1, 6, 10, 5, 3, 4, 9, 7, 8], false, ⟨(some 56), .move (.tmp 12), some (50, true)⟩⟩, (.int .i64)),
                        (⟨23, [21, 22, 16, 15, 14, 13, 12, 2, 11, 0, 1, 6, 10, 5, 3, 4, 9, 7, 8], false, ⟨(some 57), .idxSlice 1 (.tmp 55) (.tmp 56), some (50, true)⟩⟩, .ptr),
                        (⟨24, [23, 16, 21, 22, 15, 14, 13, 12, 2, 11, 0, 1, 6, 10, 5, 3, 4, 9, 7, 8], false, ⟨(some 58), .load false 1 (.tmp 57), some (50, true)⟩⟩, .any),
                        (⟨25, [24, 16, 23, 21, 22, 15, 14, 13, 12, 2, 11, 0, 1, 6, 10, 5, 3, 4, 9, 7, 8], false, ⟨(some 59), .lenS (.tmp 58), some (50, true)⟩⟩, (.int .i64)),
                        (⟨26, [20, 25, 16, 19, 17, 18, 15, 14, 13, 12, 2, 11, 0, 1, 6, 10, 5, 3, 4, 9, 7, 8, 24, 23, 21, 22], false, ⟨(some 60), .bin .lss (.tmp 54) (.tmp 59), some (50, true)⟩⟩, .bool),
                        (⟨27, [16, 26, 14, 15, 13, 12, 2, 11, 0, 1, 6, 10, 5, 3, 4, 9, 7, 8, 20, 25, 19, 17, 18, 24, 23, 21, 22], false, ⟨(some 61), .pick (.tmp 50) (.tmp 60) (.const (.bool false)), some (48, false)⟩⟩, .bool),
                        (⟨28, [27, 16, 14, 26, 15, 13, 12, 2, 11, 0, 1, 6, 10, 5, 3, 4, 9, 7, 8, 20, 25, 19, 17, 18, 24, 23, 21, 22], false, ⟨(some 62), .move (.tmp 61), some (48, false)⟩⟩, .bool),
                        (⟨29, [28, 27, 16, 14, 26, 15, 13, 12, 2, 11, 0, 1, 6, 10, 5, 3, 4, 9, 7, 8, 20, 25, 19, 17, 18, 24, 23, 21, 22], false, ⟨(some 63), .move (.tmp 0), some (62, true)⟩⟩, .ptr),
                        (⟨30, [28, 27, 16, 14, 26, 15, 13, 12, 2, 11, 0, 1, 6, 10, 5, 3, 4, 9, 7, 8, 20, 25, 19, 17, 18, 24, 23, 21, 22], false, ⟨(some 64), .move (.tmp 13), some (62, true)⟩⟩, (.int .u64)),
                        (⟨31, [29, 30, 28, 27, 16, 14, 26, 15, 13, 12, 2, 11, 0, 1, 6, 10, 5, 3, 4, 9, 7, 8, 20, 25, 19, 17, 18, 24, 23, 21, 22], true, ⟨(some 65), .call k_lock_Locks_Ready [(.tmp 63), (.tmp 64)], some (62, true)⟩⟩, .bool),
                        (⟨32, [31, 28, 29, 30, 27, 16, 14, 26, 15, 13, 12, 2, 11, 0, 1, 6, 10, 5, 3, 4, 9, 7, 8, 20, 25, 19, 17, 18, 24, 23, 21, 22], false, ⟨(some 66), .un .not (.tmp 65), some (62, true)⟩⟩, .bool),
                        (⟨33, [28, 32, 14, 27, 16, 26, 15, 13, 12, 2, 11, 0, 1, 6, 10, 5, 3, 4, 9, 7, 8, 20, 25, 19, 17, 18, 24, 23, 21, 22, 31, 29, 30], false, ⟨(some 67), .pick (.tmp 62) (.tmp 66) (.const (.bool false)), some (48, false)⟩⟩, .bool),
                        (⟨34, [14, 33, 13, 12, 2, 11, 0, 1, 6, 10, 5, 3, 4, 9, 7, 8, 28, 32, 27, 16, 26, 15, 20, 25, 19, 17, 18, 24, 23, 21, 22, 31, 29, 30], false, ⟨(some 68), .pick (.tmp 48) (.const (.bool true)) (.tmp 67), none⟩⟩, .bool)]) <|
                  .cond (.tmp 68)
                    (.seq (.reg [(⟨(some 10), .move (.const (.bool false)), none⟩, .bool)]) <|
                    .ret)
                    (.skip)) <|
                .reg [(⟨(some 11), .move (.const (.bool false)), none⟩, .bool)]) <|
          .reg [(⟨(some 69), .bin .add (.tmp 24) (.const (.int .i64 1)), none⟩, (.int .i64)),
            (⟨(some 24), .move (.tmp 69), none⟩, (.int .i64))]) <|
  .seq (.seq (.reg [(⟨(some 14), .move (.const (.int .i64 0)), none⟩, (.int .i64))]) <|
    .block 2 <|
      .loop [(14, (.int .i64))] <|
        .seq (.seq (.reg [(⟨(some 70), .move (.tmp 14), none⟩, (.int .i64)),
              (⟨(some 71), .move (.tmp 1), none⟩, (.int .i64)),
              (⟨(some 72), .bin .lss (.tmp 70) (.tmp 71), none⟩, .bool)]) <|
          .cond (.tmp 72)
            (.skip)
            (.exit 2)) <|
        .seq (.cut [] <|
            .block 3 <|
              .seq (.reg [(⟨(some 75), .move (.tmp 0), none⟩, .ptr),
                  (⟨(some 76), .move (.tmp 14), none⟩, (.int .i64)),
                  (⟨(some 77), .call k_lock_Locks_Queue [(.tmp 75), (.tmp 76)], none⟩, .any),
                  (⟨(some 15), .move (.tmp 77), none⟩, .any)]) <|
              .seq (.reg [(⟨(some 16), .move (.const (.slice none 0 0)), none⟩, .any)]) <|
              .seq (.reg [(⟨(some 17), .move (.const (.int .u64 0)), none⟩, (.int .u64))]) <|
              .seq (.cut [(16, .any), (17, (.int .u64))] <|
                  .seq (.reg [(⟨(some 78), .move (.tmp 2), none⟩, .any),
                      (⟨(some 79), .lenS (.tmp 78), none⟩, (.int .i64)),
                      (⟨(some 80), .move (.const (.int .i64 0)), none⟩, (.int .i64))]) <|
                  .block 4 <|
                    .loop [(16, .any), (17, (.int .u64)), (80, (.int .i64))] <|
                      .seq (.reg [(⟨(some 81), .bin .lss (.tmp 80) (.tmp 79), none⟩, .any)]) <|
                      .seq (.cond (.tmp 81)
                          (.skip)
                          (.exit 4)) <|
                      .seq (.cut [(16, .any), (17, (.int .u64))] <|
                          .block 5 <|
                            .seq (.reg [(⟨(some 82), .move (.tmp 80), none⟩, (.int .i64)),
                                (⟨(some 18), .move (.tmp 82), none⟩, (.int .i64))]) <|
                            .seq (.reg [(⟨(some 83), .move (.tmp 2), none⟩, .any),
                                (⟨(some 84), .move (.tmp 18), none⟩, (.int .i64)),
                                (⟨(some 85), .idxSlice 1 (.tmp 83) (.tmp 84), none⟩, .ptr),
                                (⟨(some 86), .load false 1 (.tmp 85), none⟩, .any),
                                (⟨(some 87), .lenS (.tmp 86), none⟩, (.int .i64)),
                                (⟨(some 88), .move (.const (.int .i64 0)), none⟩, (.int .i64))]) <|
                            .block 6 <|
                              .loop [(16, .any), (17, (.int .u64)), (88, (.int .i64))] <|
                                .seq (.reg [(⟨(some 89), .bin .lss (.tmp 88) (.tmp 87), none⟩, .any)]) <|
                                .seq (.cond (.tmp 89)
                                    (.skip)
                                    (.exit 6)) <|
                                .seq (.cut [(16, .any), (17, (.int .u64))] <|
                                    .block 7 <|
                                      .seq (.reg [(⟨(some 90), .move (.tmp 88), none⟩, (.int .i64)),
                                          (⟨(some 19), .move (.tmp 90), none⟩, (.int .i64))]) <|
                                      .seq (.cutn [(106, .bool)] <|
                                          .reg [(⟨(some 91), .move (.tmp 4), none⟩, .any),
                                            (⟨(some 92), .move (.tmp 18), none⟩, (.int .i64)),
                                            (⟨(some 93), .idxSlice 1 (.tmp 91) (.tmp 92), none⟩, .ptr),
                                            (⟨(some 94), .load false 1 (.tmp 93), none⟩, .bool),
                                            (⟨(some 95), .un .not (.tmp 94), none⟩, .bool),
                                            (⟨(some 96), .move (.tmp 95), none⟩, .bool),
                                            (⟨(some 97), .move (.tmp 2), some (96, true)⟩, .any),
                                            (⟨(some 98), .move (.tmp 18), some (96, true)⟩, (.int .i64)),
                                            (⟨(some 99), .idxSlice 1 (.tmp 97) (.tmp 98), some (96, true)⟩, .ptr),
                                            (⟨(some 100), .load false 1 (.tmp 99), some (96, true)⟩, .any),
                                            (⟨(some 101), .move (.tmp 19), some (96, true)⟩, (.int .i64)),
                                            (⟨(some 102), .idxSlice 1 (.tmp 100) (.tmp 101), some (96, true)⟩, .ptr),
                                            (⟨(some 103), .load false 1 (.tmp 102), some (96, true)⟩, (.int .i64)),
                                            (⟨(some 104), .move (.tmp 14), some (96, true)⟩, (.int .i64)),
                                            (⟨(some 105), .bin .eql (.tmp 103) (.tmp 104), some (96, true)⟩, .bool),
                                            (⟨(some 106), .pick (.tmp 96) (.tmp 105) (.const (.bool false)), none⟩, .bool)]) <|
                                      .cond (.tmp 106)
                                        (.seq (.reg [(⟨(some 107), .move (.tmp 16), none⟩, .any),
                                            (⟨(some 108), .move (.tmp 18), none⟩, (.int .i64)),
                                            (⟨(some 109), .bin .add (.tmp 108) (.const (.int .i64 1)), none⟩, (.int .i64)),
                                            (⟨(some 110), .conv .u64 (.tmp 109), none⟩, (.int .u64)),
                                            (⟨(some 111), .buildSlice 1 1 [(.int .u64 0)] [(0, 1, (.tmp 110))], none⟩, .any),
                                            (⟨(some 112), .append 8 1 (.tmp 107) (.tmp 111), none⟩, .any),
                                            (⟨(some 16), .move (.tmp 112), none⟩, .any)]) <|
                                        .seq (.reg [(⟨(some 113), .move (.tmp 19), none⟩, (.int .i64)),
                                            (⟨(some 114), .move (.tmp 3), none⟩, .any),
                                            (⟨(some 115), .move (.tmp 18), none⟩, (.int .i64)),
                                            (⟨(some 116), .idxSlice 1 (.tmp 114) (.tmp 115), none⟩, .ptr),
                                            (⟨(some 117), .load false 1 (.tmp 116), none⟩, (.int .i64)),
                                            (⟨(some 118), .bin .lss (.tmp 113) (.tmp 117), none⟩, .bool)]) <|
                                        .cond (.tmp 118)
                                          (.seq (.seq (.reg [(⟨(some 119), .move (.tmp 17), none⟩, (.int .u64)),
                                                (⟨(some 120), .bin .neq (.tmp 119) (.const (.int .u64 0)), none⟩, .bool)]) <|
                                            .cond (.tmp 120)
                                              (.seq (.reg [(⟨(some 10), .move (.const (.bool false)), none⟩, .bool)]) <|
                                              .ret)
                                              (.skip)) <|
                                          .reg [(⟨(some 121), .move (.tmp 18), none⟩, (.int .i64)),
                                            (⟨(some 122), .bin .add (.tmp 121) (.const (.int .i64 1)), none⟩, (.int .i64)),
                                            (⟨(some 123), .conv .u64 (.tmp 122), none⟩, (.int .u64)),
                                            (⟨(some 17), .move (.tmp 123), none⟩, (.int .u64))])
                                          (.skip))
                                        (.skip)) <|
                                .reg [(⟨(some 124), .bin .add (.tmp 88) (.const (.int .i64 1)), none⟩, (.int .i64)),
                                  (⟨(some 88), .move (.tmp 124), none⟩, (.int .i64))]) <|
                      .reg [(⟨(some 125), .bin .add (.tmp 80) (.const (.int .i64 1)), none⟩, (.int .i64)),
                        (⟨(some 80), .move (.tmp 125), none⟩, (.int .i64))]) <|
              .seq (.reg [(⟨(some 127), .move (.tmp 0), none⟩, .ptr),
                  (⟨(some 128), .move (.tmp 14), none⟩, (.int .i64)),
                  (⟨(some 129), .call k_lock_Locks_Holder [(.tmp 127), (.tmp 128)], none⟩, .any),
                  (⟨(some 126), .move (.tmp 129), none⟩, .any),
                  (⟨(some 130), .extract (.tmp 126) 0, none⟩, (.int .u64)),
                  (⟨(some 131), .extract (.tmp 126) 1, none⟩, .bool),
                  (⟨(some 20), .move (.tmp 130), none⟩, (.int .u64)),
                  (⟨(some 21), .move (.tmp 131), none⟩, .bool)]) <|
              .seq (.cutn [(156, .bool)] <|
                  .reg [(⟨(some 132), .move (.tmp 15), none⟩, .any),
                    (⟨(some 133), .move (.tmp 16), none⟩, .any),
                    (⟨(some 134), .call k_wicketlaw14_sameTickets [(.tmp 132), (.tmp 133)], none⟩, .bool),
                    (⟨(some 135), .un .not (.tmp 134), none⟩, .bool),
                    (⟨(some 136), .move (.tmp 135), none⟩, .bool),
                    (⟨(some 137), .move (.tmp 21), some (136, false)⟩, .bool),
                    (⟨(some 138), .move (.tmp 17), some (136, false)⟩, (.int .u64)),
                    (⟨(some 139), .bin .neq (.tmp 138) (.const (.int .u64 0)), some (136, false)⟩, .bool),
                    (⟨(some 140), .eqv true .bool (.tmp 137) (.tmp 139), some (136, false)⟩, .bool),
                    (⟨(some 141), .pick (.tmp 136) (.const (.bool true)) (.tmp 140), none⟩, .bool),
                    (⟨(some 142), .move (.tmp 141), none⟩, .bool),
                    (⟨(some 143), .move (.tmp 20), some (142, false)⟩, (.int .u64)),
                    (⟨(some 144), .move (.tmp 17), some (142, false)⟩, (.int .u64)),
                    (⟨(some 145), .bin .neq (.tmp 143) (.tmp 144), some (142, false)⟩, .bool),
                    (⟨(some 146), .pick (.tmp 142) (.const (.bool true)) (.tmp 145), none⟩, .bool),
                    (⟨(some 147), .move (.tmp 146), none⟩, .bool),
                    (⟨(some 148), .move (.tmp 21), some (147, false)⟩, .bool),
                    (⟨(some 149), .move (.tmp 148), some (147, false)⟩, .bool),
                    (⟨(some 150), .move (.tmp 15), some (149, true)⟩, .any),
                    (⟨(some 151), .idxSlice 1 (.tmp 150) (.const (.int .i64 0)), some (149, true)⟩, .ptr),
                    (⟨(some 152), .load false 1 (.tmp 151), some (149, true)⟩, (.int .u64)),
                    (⟨(some 153), .move (.tmp 20), some (149, true)⟩, (.int .u64)),
                    (⟨(some 154), .bin .neq (.tmp 152) (.tmp 153), some (149, true)⟩, .bool),
                    (⟨(some 155), .pick (.tmp 149) (.tmp 154) (.const (.bool false)), some (147, false)⟩, .bool),
                    (⟨(some 156), .pick (.tmp 147) (.const (.bool true)) (.tmp 155), none⟩, .bool)]) <|
              .cond (.tmp 156)
                (.seq (.reg [(⟨(some 10), .move (.const (.bool false)), none⟩, .bool)]) <|
                .ret)
                (.skip)) <|
        .reg [(⟨(some 73), .move (.tmp 14), none⟩, (.int .i64)),
          (⟨(some 74), .bin .add (.tmp 73) (.const (.int .i64 1)), none⟩, (.int .i64)),
          (⟨(some 14), .move (.tmp 74), none⟩, (.int .i64))]) <|
  .seq (.reg [(⟨(some 10), .move (.const (.bool true)), none⟩, .bool)]) <|
  .ret
def f_wicketlaw14_fair_C23 (n : Nat) (u4 : Value) (u3 : Value) (u2 : Value) (u0 : Option Addr) (v3 : Int) (v2 : Bool) (h5 : Heap) : Option (((Bool × Unit) × Heap) ⊕ (((Bool × Int × Unit) × Heap) ⊕ (((Unit) × Heap) ⊕ ((Bool × Unit) × Heap)))) :=
  (ixB 1 u4 v3).bind fun q6 =>
  (ldT .bool h5 (some q6)).bind fun x7 =>
  bif x7 then
    (some (.inl ((v2, ()), h5)))
  else
    ((((ixB 1 u2 v3).bind fun q8 =>
      (ldT .any h5 (some q8)).bind fun x9 =>
      (ixB 1 u3 v3).bind fun q10 =>
      (ldT (.int .i64) h5 (some q10)).bind fun x11 =>
      (sliceK h5 1 none (some (.int .i64 x11)) none x9).bind fun p12 =>
      (f_lock_Locks_Held n u0 (IntKind.u64.wrap ((IntKind.i64.wrap (v3 + 1)))) (hid h5 [] ((Addr.block q10) :: ((Addr.block q8) :: [])))).bind fun p13 =>
      bnd (Heap.putBack p13.2 h5 ([] ++ ((Addr.block q10) :: ((Addr.block q8) :: [])))) fun h14 =>
      (f_wicketlaw14_sameInts n p13.1.1 p12.1 h14).bind fun p15 =>
      bif (!p15.1.1) then
        (some ((true, ()), p15.2))
      else
        (bif v2 then
          ((ixB 1 u3 v3).bind fun q16 =>
          (ldT (.int .i64) p15.2 (some q16)).bind fun x17 =>
          (ixB 1 u2 v3).bind fun q18 =>
          (ldT .any p15.2 (some q18)).bind fun x19 =>
          (lenB x19).bind fun n20 =>
          bif (decide (x17 < (n20 : Int))) then
            ((f_lock_Locks_Ready n u0 (IntKind.u64.wrap ((IntKind.i64.wrap (v3 + 1)))) p15.2).bind fun p21 =>
            some (((!p21.1.1), ()), p21.2))
          else
            (some ((false, ()), p15.2)))
        else
          (some ((false, ()), p15.2)))) : Option ((Bool × Unit) × Heap)).bind fun a22 =>
    bif a22.1.1 then
      (some (.inr (.inr (.inr ((false, ()), a22.2)))))
    else
      (some (.inl ((false, ()), a22.2))))
def f_wicketlaw14_fair_L25 (n : Nat) (u4 : Value) (u3 : Value) (u2 : Value) (u0 : Option Addr) (n1 : Nat) (v2 : Bool) (v3 : Int) (h4 : Heap) : Option (((Bool × Int × Unit) × Heap) ⊕ (((Unit) × Heap) ⊕ ((Bool × Unit) × Heap))) :=
  bif (decide (v3 < (n1 : Int))) then
    (thenB (f_wicketlaw14_fair_C23 n u4 u3 u2 u0 v3 v2 (h4)) fun a24 =>
    some (.inl ((a24.1.1, ((IntKind.i64.wrap (v3 + 1)), ())), a24.2)))
  else
    (some (.inr (.inl ((), h4))))
def f_wicketlaw14_fair_C26 (n : Nat) (u4 : Value) (u3 : Value) (u2 : Value) (u0 : Option Addr) (h0 : Heap) : Option (((Unit) × Heap) ⊕ ((Bool × Unit) × Heap)) :=
  (lenB u2).bind fun n1 =>
  loopT (fun a => f_wicketlaw14_fair_L25 n u4 u3 u2 u0 n1 a.1.1 a.1.2.1 a.2) n ((true, (0, ())), h0)
def f_wicketlaw14_fair_C59 (n : Nat) (u4 : Value) (u3 : Value) (u2 : Value) (v28 : Int) (v36 : Int) (v44 : Int) (v43 : Int) (v42 : Value) (h46 : Heap) : Option (((Value × Int × Unit) × Heap) ⊕ (((Value × Int × Int × Unit) × Heap) ⊕ (((Value × Int × Unit) × Heap) ⊕ (((Value × Int × Int × Unit) × Heap) ⊕ (((Value × Int × Unit) × Heap) ⊕ (((Unit) × Heap) ⊕ (((Int × Unit) × Heap) ⊕ ((Bool × Unit) × Heap)))))))) :=
  (((ixB 1 u4 v36).bind fun q47 =>
    (ldT .bool h46 (some q47)).bind fun x48 =>
    bif (!x48) then
      ((ixB 1 u2 v36).bind fun q49 =>
      (ldT .any h46 (some q49)).bind fun x50 =>
      (ixB 1 x50 v44).bind fun q51 =>
      (ldT (.int .i64) h46 (some q51)).bind fun x52 =>
      some (((decide (x52 = v28)), ()), h46))
    else
      (some ((false, ()), h46))) : Option ((Bool × Unit) × Heap)).bind fun a53 =>
  bif a53.1.1 then
    ((fillL [(.int .u64 0)] [(0, 1, (.int .u64 (IntKind.u64.wrap ((IntKind.i64.wrap (v36 + 1))))))]).bind fun cs54 =>
    bnd ((Heap.new a53.2 (.cells cs54 false 1))) fun h55 =>
    (appendK h55 8 1 v42 (.slice (some ⟨Heap.next a53.2, 0, some 0⟩) 1 1)).bind fun p56 =>
    (ixB 1 u3 v36).bind fun q57 =>
    (ldT (.int .i64) p56.2 (some q57)).bind fun x58 =>
    bif (decide (v44 < x58)) then
      (bif (!decide (v43 = 0)) then
        (some (.inr (.inr (.inr (.inr (.inr (.inr (.inr ((false, ()), p56.2)))))))))
      else
        (some (.inl ((p56.1, ((IntKind.u64.wrap ((IntKind.i64.wrap (v36 + 1)))), ())), p56.2))))
    else
      (some (.inl ((p56.1, (v43, ())), p56.2))))
  else
    (some (.inl ((v42, (v43, ())), a53.2)))
def f_wicketlaw14_fair_L61 (n : Nat) (u4 : Value) (u3 : Value) (u2 : Value) (v28 : Int) (v36 : Int) (n41 : Nat) (v42 : Value) (v43 : Int) (v44 : Int) (h45 : Heap) : Option (((Value × Int × Int × Unit) × Heap) ⊕ (((Value × Int × Unit) × Heap) ⊕ (((Value × Int × Int × Unit) × Heap) ⊕ (((Value × Int × Unit) × Heap) ⊕ (((Unit) × Heap) ⊕ (((Int × Unit) × Heap) ⊕ ((Bool × Unit) × Heap))))))) :=
  bif (decide (v44 < (n41 : Int))) then
    (thenB (f_wicketlaw14_fair_C59 n u4 u3 u2 v28 v36 v44 v43 v42 (h45)) fun a60 =>
    some (.inl ((a60.1.1, (a60.1.2.1, ((IntKind.i64.wrap (v44 + 1)), ()))), a60.2)))
  else
    (some (.inr (.inl ((v42, (v43, ())), h45))))
def f_wicketlaw14_fair_C62 (n : Nat) (u4 : Value) (u3 : Value) (u2 : Value) (v28 : Int) (v36 : Int) (v35 : Int) (v34 : Value) (h38 : Heap) : Option (((Value × Int × Unit) × Heap) ⊕ (((Value × Int × Int × Unit) × Heap) ⊕ (((Value × Int × Unit) × Heap) ⊕ (((Unit) × Heap) ⊕ (((Int × Unit) × Heap) ⊕ ((Bool × Unit) × Heap)))))) :=
  (ixB 1 u2 v36).bind fun q39 =>
  (ldT .any h38 (some q39)).bind fun x40 =>
  (lenB x40).bind fun n41 =>
  loopT (fun a => f_wicketlaw14_fair_L61 n u4 u3 u2 v28 v36 n41 a.1.1 a.1.2.1 a.1.2.2.1 a.2) n ((v34, (v35, (0, ()))), h38)
def f_wicketlaw14_fair_L64 (n : Nat) (u4 : Value) (u3 : Value) (u2 : Value) (v28 : Int) (n33 : Nat) (v34 : Value) (v35 : Int) (v36 : Int) (h37 : Heap) : Option (((Value × Int × Int × Unit) × Heap) ⊕ (((Value × Int × Unit) × Heap) ⊕ (((Unit) × Heap) ⊕ (((Int × Unit) × Heap) ⊕ ((Bool × Unit) × Heap))))) :=
  bif (decide (v36 < (n33 : Int))) then
    (thenB (f_wicketlaw14_fair_C62 n u4 u3 u2 v28 v36 v35 v34 (h37)) fun a63 =>
    some (.inl ((a63.1.1, (a63.1.2.1, ((IntKind.i64.wrap (v36 + 1)), ()))), a63.2)))
  else
    (some (.inr (.inl ((v34, (v35, ())), h37))))
def f_wicketlaw14_fair_C65 (n : Nat) (u4 : Value) (u3 : Value) (u2 : Value) (v28 : Int) (h32 : Heap) : Option (((Value × Int × Unit) × Heap) ⊕ (((Unit) × Heap) ⊕ (((Int × Unit) × Heap) ⊕ ((Bool × Unit) × Heap)))) :=
  (lenB u2).bind fun n33 =>
  loopT (fun a => f_wicketlaw14_fair_L64 n u4 u3 u2 v28 n33 a.1.1 a.1.2.1 a.1.2.2.1 a.2) n (((.slice none 0 0), (0, (0, ()))), h32)
def f_wicketlaw14_fair_C72 (n : Nat) (u4 : Value) (u3 : Value) (u2 : Value) (u0 : Option Addr) (v28 : Int) (h30 : Heap) : Option (((Unit) × Heap) ⊕ (((Int × Unit) × Heap) ⊕ ((Bool × Unit) × Heap))) :=
  (f_lock_Locks_Queue n u0 v28 h30).bind fun p31 =>
  thenB (f_wicketlaw14_fair_C65 n u4 u3 u2 v28 (p31.2)) fun a66 =>
  (f_lock_Locks_Holder n u0 v28 a66.2).bind fun p67 =>
  (((f_wicketlaw14_sameTickets n p31.1.1 a66.1.1 p67.2).bind fun p68 =>
    bif (!p68.1.1) then
      (some ((true, ()), p68.2))
    else
      (bif (!(p67.1.2.1 == (!decide (a66.1.2.1 = 0)))) then
        (some ((true, ()), p68.2))
      else
        (bif (!decide (p67.1.1 = a66.1.2.1)) then
          (some ((true, ()), p68.2))
        else
          (bif p67.1.2.1 then
            ((ixB 1 p31.1.1 0).bind fun q69 =>
            (ldT (.int .u64) p68.2 (some q69)).bind fun x70 =>
            some (((!decide (x70 = p67.1.1)), ()), p68.2))
          else
            (some ((false, ()), p68.2)))))) : Option ((Bool × Unit) × Heap)).bind fun a71 =>
  bif a71.1.1 then
    (some (.inr (.inr ((false, ()), a71.2))))
  else
    (some (.inl ((), a71.2)))
def f_wicketlaw14_fair_L74 (n : Nat) (u4 : Value) (u3 : Value) (u2 : Value) (u1 : Int) (u0 : Option Addr) (v28 : Int) (h29 : Heap) : Option (((Int × Unit) × Heap) ⊕ ((Bool × Unit) × Heap)) :=
  bif (decide (v28 < u1)) then
    (thenB (f_wicketlaw14_fair_C72 n u4 u3 u2 u0 v28 (h29)) fun a73 =>
    some (.inl (((IntKind.i64.wrap (v28 + 1)), ()), a73.2)))
  else
    (some (.inr ((true, ()), h29)))
noncomputable def sf_wicketlaw14_fair (n : Nat) : Sf := sfOf [(k_lock_Locks_Held, s_lock_Locks_Held n), (k_wicketlaw14_sameInts, s_wicketlaw14_sameInts n), (k_lock_Locks_Ready, s_lock_Locks_Ready n), (k_lock_Locks_Queue, s_lock_Locks_Queue n), (k_lock_Locks_Holder, s_lock_Locks_Holder n), (k_wicketlaw14_sameTickets, s_wicketlaw14_sameTickets n)]
noncomputable def it_wicketlaw14_fair (n : Nat) : It := itOf []
def f_wicketlaw14_fair (n : Nat) (u0 : Option Addr) (u1 : Int) (u2 : Value) (u3 : Value) (u4 : Value) (h : Heap) : Option ((Bool × Unit) × Heap) :=
  thenB (f_wicketlaw14_fair_C26 n u4 u3 u2 u0 (h)) fun a27 =>
  loopT (fun a => f_wicketlaw14_fair_L74 n u4 u3 u2 u1 u0 a.1.1 a.2) n ((0, ()), a27.2)
def rs_wicketlaw14_fair : Rs := [(.tmp 10, .bool)]
def ps_wicketlaw14_fair : List Ty := [.ptr, (.int .i64), .any, .any, .any]
theorem e_wicketlaw14_fair (n : Nat) (u0 : Option Addr) (u1 : Int) (u2 : Value) (u3 : Value) (u4 : Value) (h : Heap) : f_wicketlaw14_fair n u0 u1 u2 u3 u4 h = fB (sf_wicketlaw14_fair n) (it_wicketlaw14_fair n) n c2_wicketlaw14_fair rs_wicketlaw14_fair ps_wicketlaw14_fair (u0, (u1, (u2, (u3, (u4, ()))))) h := by kernel_rfl
noncomputable def s_wicketlaw14_fair (n : Nat) : Sf1 := mkSf ps_wicketlaw14_fair rs_wicketlaw14_fair fun a h => f_wicketlaw14_fair n a.1 a.2.1 a.2.2.1 a.2.2.2.1 a.2.2.2.2.1 h

/- wicket/wicketlaw14.LockRefused -/
def c2_wicketlaw14_LockRefused : C2 :=
  .seq (.reg [(⟨(some 8), .move (.const (.bool false)), none⟩, .bool)]) <|
  .seq (.reg [(⟨(some 22), .move (.tmp 0), none⟩, (.int .i64)),
      (⟨(some 23), .call k_wicketlaw14_blocksOf [(.tmp 22)], none⟩, (.int .i64)),
      (⟨(some 9), .move (.tmp 23), none⟩, (.int .i64))]) <|
  .seq (.reg [(⟨(some 25), .move (.tmp 9), none⟩, (.int .i64)),
      (⟨(some 26), .move (.tmp 1), none⟩, .any),
      (⟨(some 27), .call k_wicketlaw14_crowd [(.tmp 25), (.tmp 26)], none⟩, .any),
      (⟨(some 24), .move (.tmp 27), none⟩, .any),
      (⟨(some 28), .extract (.tmp 24) 0, none⟩, .ptr),
      (⟨(some 29), .extract (.tmp 24) 1, none⟩, .any),
      (⟨(some 10), .move (.tmp 28), none⟩, .ptr),
      (⟨(some 11), .move (.tmp 29), none⟩, .any)]) <|
  .seq (.seq (.cutn [(35, .bool)] <|
        .reg [(⟨(some 30), .call k_wicketlaw14_awake [], none⟩, .bool),
          (⟨(some 31), .un .not (.tmp 30), none⟩, .bool),
          (⟨(some 32), .move (.tmp 31), none⟩, .bool),
          (⟨(some 33), .move (.tmp 10), some (32, false)⟩, .ptr),
          (⟨(some 34), .eqv false .ptr (.tmp 33) (.const (.pointer none)), some (32, false)⟩, .bool),
          (⟨(some 35), .pick (.tmp 32) (.const (.bool true)) (.tmp 34), none⟩, .bool)]) <|
    .cond (.tmp 35)
      (.seq (.reg [(⟨(some 8), .move (.const (.bool false)), none⟩, .bool)]) <|
      .ret)
      (.skip)) <|
  .seq (.reg [(⟨(some 12), .move (.const (.slice none 0 0)), none⟩, .any)]) <|
  .seq (.reg [(⟨(some 36), .move (.tmp 11), none⟩, .any),
      (⟨(some 37), .lenS (.tmp 36), none⟩, (.int .i64)),
      (⟨(some 38), .makeSlice 1 1 [(.bool false)] (.tmp 37) (.tmp 37), none⟩, .any),
      (⟨(some 13), .move (.tmp 38), none⟩, .any)]) <|
  .seq (.cutn [(12, .any)] <|
      .seq (.reg [(⟨(some 39), .move (.tmp 11), none⟩, .any),
          (⟨(some 40), .lenS (.tmp 39), none⟩, (.int .i64)),
          (⟨(some 41), .move (.const (.int .i64 0)), none⟩, (.int .i64))]) <|
      .block 0 <|
        .loop [(12, .any), (41, (.int .i64))] <|
          .seq (.reg [(⟨(some 42), .bin .lss (.tmp 41) (.tmp 40), none⟩, .any)]) <|
          .seq (.cond (.tmp 42)
              (.skip)
              (.exit 0)) <|
          .seq (.block 1 <|
              .reg [(⟨(some 43), .move (.tmp 12), none⟩, .any),
                (⟨(some 44), .buildSlice 1 1 [(.int .i64 0)] [(0, 1, (.const (.int .i64 0)))], none⟩, .any),
                (⟨(some 45), .append 8 1 (.tmp 43) (.tmp 44), none⟩, .any),
                (⟨(some 12), .move (.tmp 45), none⟩, .any)]) <|
          .reg [(⟨(some 46), .bin .add (.tmp 41) (.const (.int .i64 1)), none⟩, (.int .i64)),
            (⟨(some 41), .move (.tmp 46), none⟩, (.int .i64))]) <|
  .seq (.reg [(⟨(some 47), .move (.tmp 11), none⟩, .any),
      (⟨(some 48), .lenS (.tmp 47), none⟩, (.int .i64)),
      (⟨(some 49), .conv .u64 (.tmp 48), none⟩, (.int .u64)),
      (⟨(some 14), .move (.tmp 49), none⟩, (.int .u64))]) <|
  .seq (.seq (.cutn [(92, .bool)] <|
        .reg [(⟨(some 50), .move (.tmp 10), none⟩, .ptr),
          (⟨(some 51), .move (.tmp 2), none⟩, (.int .u64)),
          (⟨(some 52), .move (.tmp 14), none⟩, (.int .u64)),
          (⟨(some 53), .bin .add (.tmp 52) (.const (.int .u64 1)), none⟩, (.int .u64)),
          (⟨(some 54), .bin .rem (.tmp 51) (.tmp 53), none⟩, (.int .u64)),
          (⟨(some 55), .buildSlice 1 1 [(.int .i64 0)] [(0, 1, (.const (.int .i64 0)))], none⟩, .any),
          (⟨(some 56), .call k_lock_Locks_Lay [(.tmp 50), (.tmp 54), (.tmp 55)], none⟩, (.int .i64)),
          (⟨(some 57), .call k_wicketlaw14_num [(.tmp 56)], none⟩, (.int .i64)),
          (⟨(some 58), .bin .neq (.tmp 57) (.const (.int .i64 110)), none⟩, .bool),
          (⟨(some 59), .move (.tmp 58), none⟩, .bool),
          (⟨(some 60), .move (.tmp 10), some (59, false)⟩, .ptr),
          (⟨(some 61), .move (.tmp 14), some (59, false)⟩, (.int .u64)),
          (⟨(some 62), .bin .add (.tmp 61) (.const (.int .u64 1)), some (59, false)⟩, (.int .u64)),
          (⟨(some 63), .call k_lock_Locks_Lay [(.tmp 60), (.tmp 62), (.const (.slice none 0 0))], some (59, false)⟩, (.int .i64)),
          (⟨(some 64), .call k_wicketlaw14_num [(.tmp 63)], some (59, false)⟩, (.int .i64)),
          (⟨(some 65), .bin .neq (.tmp 64) (.const (.int .i64 53)), some (59, false)⟩, .bool),
          (⟨(some 66), .pick (.tmp 59) (.const (.bool true)) (.tmp 65), none⟩, .bool),
          (⟨(some 67), .move (.tmp 66), none⟩, .bool),
          (⟨(some 68), .move (.tmp 10), some (67, false)⟩, .ptr),
          (⟨(some 69), .move (.tmp 14), some (67, false)⟩, (.int .u64)),
          (⟨(some 70), .bin .add (.tmp 69) (.const (.int .u64 1)), some (67, false)⟩, (.int .u64)),
          (⟨(some 71), .buildSlice 2 1 [(.int .i64 0), (.int .i64 0)] [(0, 1, (.const (.int .i64 0))), (1, 1, (.const (.int .i64 0)))], some (67, false)⟩, .any),
          (⟨(some 72), .call k_lock_Locks_Lay [(.tmp 68), (.tmp 70), (.tmp 71)], some (67, false)⟩, (.int .i64)),
          (⟨(some 73), .call k_wicketlaw14_num [(.tmp 72)], some (67, false)⟩, (.int .i64)),
          (⟨(some 74), .bin .neq (.tmp 73) (.const (.int .i64 53)), some (67, false)⟩, .bool),
          (⟨(some 75), .pick (.tmp 67) (.const (.bool true)) (.tmp 74), none⟩, .bool),
          (⟨(some 76), .move (.tmp 75), none⟩, .bool),
          (⟨(some 77), .move (.tmp 10), some (76, false)⟩, .ptr),
          (⟨(some 78), .move (.tmp 9), some (76, false)⟩, (.int .i64)),
          (⟨(some 79), .buildSlice 1 1 [(.int .i64 0)] [(0, 1, (.tmp 78))], some (76, false)⟩, .any),
          (⟨(some 80), .call k_lock_Locks_Lay [(.tmp 77), (.const (.int .u64 0)), (.tmp 79)], some (76, false)⟩, (.int .i64)),
          (⟨(some 81), .call k_wicketlaw14_num [(.tmp 80)], some (76, false)⟩, (.int .i64)),
          (⟨(some 82), .bin .neq (.tmp 81) (.const (.int .i64 51)), some (76, false)⟩, .bool),
          (⟨(some 83), .pick (.tmp 76) (.const (.bool true)) (.tmp 82), none⟩, .bool),
          (⟨(some 84), .move (.tmp 83), none⟩, .bool),
          (⟨(some 85), .move (.tmp 10), some (84, false)⟩, .ptr),
          (⟨(some 86), .move (.tmp 14), some (84, false)⟩, (.int .u64)),
          (⟨(some 87), .bin .add (.tmp 86) (.const (.int .u64 1)), some (84, false)⟩, (.int .u64)),
          (⟨(some 88), .buildSlice 1 1 [(.int .i64 0)] [(0, 1, (.const (.int .i64 (-1))))], some (84, false)⟩, .any),
          (⟨(some 89), .call k_lock_Locks_Lay [(.tmp 85), (.tmp 87), (.tmp 88)], some (84, false)⟩, (.int .i64)),
          (⟨(some 90), .call k_wicketlaw14_num [(.tmp 89)], some (84, false)⟩, (.int .i64)),
          (⟨(some 91), .bin .neq (.tmp 90) (.const (.int .i64 51)), some (84, false)⟩, .bool),
          (⟨(some 92), .pick (.tmp 84) (.const (.bool true)) (.tmp 91), none⟩, .bool)]) <|
    .cond (.tmp 92)
      (.seq (.reg [(⟨(some 8), .move (.const (.bool false)), none⟩, .bool)]) <|
      .ret)
      (.skip)) <|
  .seq (.cut [] <|
      .seq (.reg [(⟨(some 15), .move (.const (.int .i64 1)), none⟩, (.int .i64))]) <|
      .block 2 <|
        .loop [(15, (.int .i64))] <|
          .seq (.seq (.cutn [(100, .bool)] <|
                .reg [(⟨(some 93), .move (.tmp 15), none⟩, (.int .i64)),
                  (⟨(some 94), .move (.tmp 3), none⟩, .any),
                  (⟨(some 95), .lenS (.tmp 94), none⟩, (.int .i64)),
                  (⟨(some 96), .bin .lss (.tmp 93) (.tmp 95), none⟩, .bool),
                  (⟨(some 97), .move (.tmp 96), none⟩, .bool),
                  (⟨(some 98), .move (.tmp 15), some (97, true)⟩, (.int .i64)),
                  (⟨(some 99), .bin .lss (.tmp 98) (.const (.int .i64 20)), some (97, true)⟩, .bool),
                  (⟨(some 100), .pick (.tmp 97) (.tmp 99) (.const (.bool false)), none⟩, .bool)]) <|
            .cond (.tmp 100)
              (.skip)
              (.exit 2)) <|
          .seq (.block 3 <|
              .seq (.cutn [(123, .bool)] <|
                  .regd [(⟨0, [], false, ⟨(some 103), .move (.tmp 3), none⟩⟩, .any),
                    (⟨1, [], false, ⟨(some 104), .move (.tmp 15), none⟩⟩, (.int .i64)),
                    (⟨2, [0, 1], false, ⟨(some 105), .idxSlice 1 (.tmp 103) (.tmp 104), none⟩⟩, .ptr),
                    (⟨3, [2, 0, 1], false, ⟨(some 106), .load false 1 (.tmp 105), none⟩⟩, (.int .i64)),
                    (⟨4, [], false, ⟨(some 107), .move (.tmp 3), none⟩⟩, .any),
                    (⟨5, [], false, ⟨(some 108), .move (.tmp 15), none⟩⟩, (.int .i64)),
                    (⟨6, [5], false, ⟨(some 109), .bin .sub (.tmp 108) (.const (.int .i64 1)), none⟩⟩, (.int .i64)),
                    (⟨7, [4, 6, 5], false, ⟨(some 110), .idxSlice 1 (.tmp 107) (.tmp 109), none⟩⟩, .ptr),
                    (⟨8, [7, 4, 6, 5], false, ⟨(some 111), .load false 1 (.tmp 110), none⟩⟩, (.int .i64)),
                    (⟨9, [3, 8, 2, 0, 1, 7, 4, 6, 5], false, ⟨(some 112), .bin .leq (.tmp 106) (.tmp 111), none⟩⟩, .bool),
                    (⟨10, [9, 3, 8, 2, 0, 1, 7, 4, 6, 5], false, ⟨(some 113), .move (.tmp 112), none⟩⟩, .bool),
                    (⟨11, [10, 9, 3, 8, 2, 0, 1, 7, 4, 6, 5], false, ⟨(some 114), .move (.tmp 10), some (113, true)⟩⟩, .ptr),
                    (⟨12, [10, 9, 3, 8, 2, 0, 1, 7, 4, 6, 5], false, ⟨(some 115), .move (.tmp 14), some (113, true)⟩⟩, (.int .u64)),
                    (⟨13, [12, 10, 9, 3, 8, 2, 0, 1, 7, 4, 6, 5], false, ⟨(some 116), .bin .add (.tmp 115) (.const (.int .u64 1)), some (113, true)⟩⟩, (.int .u64)),
                    (⟨14, [10, 9, 3, 8, 2, 0, 1, 7, 4, 6, 5], false, ⟨(some 117), .buildSlice 0 1 [] [], some (113, true)⟩⟩, .any),
                    (⟨15, [10, 9, 3, 8, 2, 0, 1, 7, 4, 6, 5], false, ⟨(some 118), .move (.tmp 3), some (113, true)⟩⟩, .any),
                    (⟨16, [14, 15, 10, 9, 3, 8, 2, 0, 1, 7, 4, 6, 5], true, ⟨(some 119), .append 8 1 (.tmp 117) (.tmp 118), some (113, true)⟩⟩, .any),
                    (⟨17, [11, 13, 16, 10, 9, 3, 8, 2, 0, 1, 7, 4, 6, 5, 12, 14, 15], true, ⟨(some 120), .call k_lock_Locks_Lay [(.tmp 114), (.tmp 116), (.tmp 119)], some (113, true)⟩⟩, (.int .i64)),
                    (⟨18, [17, 10, 11, 13, 16, 9, 3, 8, 2, 0, 1, 7, 4, 6, 5, 12, 14, 15], true, ⟨(some 121), .call k_wicketlaw14_num [(.tmp 120)], some (113, true)⟩⟩, (.int .i64)),
                    (⟨19, [18, 10, 17, 11, 13, 16, 9, 3, 8, 2, 0, 1, 7, 4, 6, 5, 12, 14, 15], false, ⟨(some 122), .bin .neq (.tmp 121) (.const (.int .i64 53)), some (113, true)⟩⟩, .bool),
                    (⟨20, [10, 19, 9, 3, 8, 2, 0, 1, 7, 4, 6, 5, 18, 17, 11, 13, 16, 12, 14, 15], false, ⟨(some 123), .pick (.tmp 113) (.tmp 122) (.const (.bool false)), none⟩⟩, .bool)]) <|
              .cond (.tmp 123)
                (.seq (.reg [(⟨(some 8), .move (.const (.bool false)), none⟩, .bool)]) <|
                .ret)
                (.skip)) <|
          .reg [(⟨(some 101), .move (.tmp 15), none⟩, (.int .i64)),
            (⟨(some 102), .bin .add (.tmp 101) (.const (.int .i64 1)), none⟩, (.int .i64)),
            (⟨(some 15), .move (.tmp 102), none⟩, (.int .i64))]) <|
  .seq (.reg [(⟨(some 125), .move (.tmp 10), none⟩, .ptr),
      (⟨(some 126), .move (.tmp 14), none⟩, (.int .u64)),
      (⟨(some 127), .bin .add (.tmp 126) (.const (.int .u64 1)), none⟩, (.int .u64)),
      (⟨(some 128), .move (.tmp 2), none⟩, (.int .u64)),
      (⟨(some 129), .bin .rem (.tmp 128) (.const (.int .u64 5)), none⟩, (.int .u64)),
      (⟨(some 130), .bin .add (.tmp 127) (.tmp 129), none⟩, (.int .u64)),
      (⟨(some 131), .call k_lock_Locks_Take [(.tmp 125), (.tmp 130)], none⟩, .any),
      (⟨(some 124), .move (.tmp 131), none⟩, .any),
      (⟨(some 132), .extract (.tmp 124) 0, none⟩, (.int .i64)),
      (⟨(some 133), .extract (.tmp 124) 1, none⟩, (.int .i64)),
      (⟨(some 16), .move (.tmp 132), none⟩, (.int .i64)),
      (⟨(some 17), .move (.tmp 133), none⟩, (.int .i64))]) <|
  .seq (.reg [(⟨(some 135), .move (.tmp 10), none⟩, .ptr),
      (⟨(some 136), .move (.tmp 14), none⟩, (.int .u64)),
      (⟨(some 137), .bin .add (.tmp 136) (.const (.int .u64 1)), none⟩, (.int .u64)),
      (⟨(some 138), .move (.tmp 2), none⟩, (.int .u64)),
      (⟨(some 139), .bin .rem (.tmp 138) (.const (.int .u64 5)), none⟩, (.int .u64)),
      (⟨(some 140), .bin .add (.tmp 137) (.tmp 139), none⟩, (.int .u64)),
      (⟨(some 141), .call k_lock_Locks_Drop [(.tmp 135), (.tmp 140)], none⟩, .any),
      (⟨(some 134), .move (.tmp 141), none⟩, .any),
      (⟨(some 142), .extract (.tmp 134) 0, none⟩, (.int .i64)),
      (⟨(some 143), .extract (.tmp 134) 1, none⟩, (.int .i64)),
      (⟨(some 18), .move (.tmp 142), none⟩, (.int .i64)),
      (⟨(some 19), .move (.tmp 143), none⟩, (.int .i64))]) <|
  .seq (.reg [(⟨(some 145), .move (.tmp 10), none⟩, .ptr),
      (⟨(some 146), .call k_lock_Locks_Take [(.tmp 145), (.const (.int .u64 0))], none⟩, .any),
      (⟨(some 144), .move (.tmp 146), none⟩, .any),
      (⟨(some 147), .extract (.tmp 144) 0, none⟩, (.int .i64)),
      (⟨(some 148), .extract (.tmp 144) 1, none⟩, (.int .i64)),
      (⟨(some 20), .move (.tmp 147), none⟩, (.int .i64)),
      (⟨(some 21), .move (.tmp 148), none⟩, (.int .i64))]) <|
  .seq (.reg [(⟨(some 149), .move (.tmp 17), none⟩, (.int .i64)),
      (⟨(some 150), .call k_wicketlaw14_num [(.tmp 149)], none⟩, (.int .i64)),
      (⟨(some 151), .bin .eql (.tmp 150) (.const (.int .i64 110)), none⟩, .bool),
      (⟨(some 152), .move (.tmp 151), none⟩, .bool),
      (⟨(some 153), .move (.tmp 19), some (152, true)⟩, (.int .i64)),
      (⟨(some 154), .call k_wicketlaw14_num [(.tmp 153)], some (152, true)⟩, (.int .i64)),
      (⟨(some 155), .bin .eql (.tmp 154) (.const (.int .i64 110)), some (152, true)⟩, .bool),
      (⟨(some 156), .pick (.tmp 152) (.tmp 155) (.const (.bool false)), none⟩, .bool),
      (⟨(some 157), .move (.tmp 156), none⟩, .bool),
      (⟨(some 158), .move (.tmp 21), some (157, true)⟩, (.int .i64)),
      (⟨(some 159), .call k_wicketlaw14_num [(.tmp 158)], some (157, true)⟩, (.int .i64)),
      (⟨(some 160), .bin .eql (.tmp 159) (.const (.int .i64 110)), some (157, true)⟩, .bool),
      (⟨(some 161), .pick (.tmp 157) (.tmp 160) (.const (.bool false)), none⟩, .bool),
      (⟨(some 162), .move (.tmp 161), none⟩, .bool),
      (⟨(some 163), .move (.tmp 10), some (162, true)⟩, .ptr),
      (⟨(some 164), .move (.tmp 9), some (162, true)⟩, (.int .i64)),
      (⟨(some 165), .move (.tmp 11), some (162, true)⟩, .any),
      (⟨(some 166), .move (.tmp 12), some (162, true)⟩, .any),
      (⟨(some 167), .move (.tmp 13), some (162, true)⟩, .any),
      (⟨(some 168), .call k_wicketlaw14_fair [(.tmp 163), (.tmp 164), (.tmp 165), (.tmp 166), (.tmp 167)], some (162, true)⟩, .bool),
      (⟨(some 169), .pick (.tmp 162) (.tmp 168) (.const (.bool false)), none⟩, .bool),
      (⟨(some 170), .move (.tmp 169), none⟩, .bool),
      (⟨(some 171), .move (.tmp 10), some (170, true)⟩, .ptr),
      (⟨(some 172), .move (.tmp 14), some (170, true)⟩, (.int .u64)),
      (⟨(some 173), .bin .add (.tmp 172) (.const (.int .u64 1)), some (170, true)⟩, (.int .u64)),
      (⟨(some 174), .buildSlice 1 1 [(.int .i64 0)] [(0, 1, (.const (.int .i64 0)))], some (170, true)⟩, .any),
      (⟨(some 175), .call k_lock_Locks_Lay [(.tmp 171), (.tmp 173), (.tmp 174)], some (170, true)⟩, (.int .i64)),
      (⟨(some 176), .call k_wicketlaw14_num [(.tmp 175)], some (170, true)⟩, (.int .i64)),
      (⟨(some 177), .bin .eql (.tmp 176) (.const (.int .i64 0)), some (170, true)⟩, .bool),
      (⟨(some 178), .pick (.tmp 170) (.tmp 177) (.const (.bool false)), none⟩, .bool),
      (⟨(some 8), .move (.tmp 178), none⟩, .bool)]) <|
  .ret
def f_wicketlaw14_LockRefused_L14 (n : Nat) (n7 : Nat) (v8 : Value) (v9 : Int) (h10 : Heap) : Option (((Value × Int × Unit) × Heap) ⊕ ((Value × Unit) × Heap)) :=
  bif (decide (v9 < (n7 : Int))) then
    ((fillL [(.int .i64 0)] [(0, 1, (.int .i64 0))]).bind fun cs11 =>
    bnd ((Heap.new h10 (.cells cs11 false 1))) fun h12 =>
    (appendK h12 8 1 v8 (.slice (some ⟨Heap.next h10, 0, some 0⟩) 1 1)).bind fun p13 =>
    some (.inl ((p13.1, ((IntKind.i64.wrap (v9 + 1)), ())), p13.2)))
  else
    (some (.inr ((v8, ()), h10)))
def f_wicketlaw14_LockRefused_L51 (n : Nat) (u3 : Value) (p1 : ((Option Addr × Value × Unit) × Heap)) (n16 : Nat) (v37 : Int) (h38 : Heap) : Option (((Int × Unit) × Heap) ⊕ (((Unit) × Heap) ⊕ ((Bool × Unit) × Heap))) :=
  (((lenB u3).bind fun n39 =>
    bif (decide (v37 < (n39 : Int))) then
      (some (((decide (v37 < 20)), ()), h38))
    else
      (some ((false, ()), h38))) : Option ((Bool × Unit) × Heap)).bind fun a40 =>
  bif a40.1.1 then
    ((((ixB 1 u3 v37).bind fun q41 =>
      (ldT (.int .i64) a40.2 (some q41)).bind fun x42 =>
      (ixB 1 u3 (IntKind.i64.wrap (v37 - 1))).bind fun q43 =>
      (ldT (.int .i64) a40.2 (some q43)).bind fun x44 =>
      bif (decide (x42 ≤ x44)) then
        ((fillL [] []).bind fun cs45 =>
        bnd ((Heap.new a40.2 (.cells cs45 false 1))) fun h46 =>
        (appendK h46 8 1 (.slice (some ⟨Heap.next a40.2, 0, some 0⟩) 0 0) u3).bind fun p47 =>
        (f_lock_Locks_Lay n p1.1.1 (IntKind.u64.wrap ((IntKind.u64.wrap ((n16 : Int))) + 1)) p47.1 p47.2).bind fun p48 =>
        (f_wicketlaw14_num n p48.1.1 p48.2).bind fun p49 =>
        some (((!decide (p49.1.1 = 53)), ()), p49.2))
      else
        (some ((false, ()), a40.2))) : Option ((Bool × Unit) × Heap)).bind fun a50 =>
    bif a50.1.1 then
      (some (.inr (.inr ((false, ()), a50.2))))
    else
      (some (.inl (((IntKind.i64.wrap (v37 + 1)), ()), a50.2))))
  else
    (some (.inr (.inl ((), a40.2))))
def f_wicketlaw14_LockRefused_C52 (n : Nat) (u3 : Value) (p1 : ((Option Addr × Value × Unit) × Heap)) (n16 : Nat) (h36 : Heap) : Option (((Unit) × Heap) ⊕ ((Bool × Unit) × Heap)) :=
  loopT (fun a => f_wicketlaw14_LockRefused_L51 n u3 p1 n16 a.1.1 a.2) n ((1, ()), h36)
noncomputable def sf_wicketlaw14_LockRefused (n : Nat) : Sf := sfOf [(k_wicketlaw14_blocksOf, s_wicketlaw14_blocksOf n), (k_wicketlaw14_crowd, s_wicketlaw14_crowd n), (k_wicketlaw14_awake, s_wicketlaw14_awake n), (k_lock_Locks_Lay, s_lock_Locks_Lay n), (k_wicketlaw14_num, s_wicketlaw14_num n), (k_lock_Locks_Take, s_lock_Locks_Take n), (k_lock_Locks_Drop, s_lock_Locks_Drop n), (k_wicketlaw14_fair, s_wicketlaw14_fair n)]
noncomputable def it_wicketlaw14_LockRefused (n : Nat) : It := itOf []
def f_wicketlaw14_LockRefused (n : Nat) (u0 : Int) (u1 : Value) (u2 : Int) (u3 : Value) (h : Heap) : Option ((Bool × Unit) × Heap) :=
  (f_wicketlaw14_blocksOf n u0 h).bind fun p0 =>
  (f_wicketlaw14_crowd n p0.1.1 u1 p0.2).bind fun p1 =>
  (((f_wicketlaw14_awake n p1.2).bind fun p2 =>
    bif (!p2.1.1) then
      (some ((true, ()), p2.2))
    else
      (some (((Option.isNone p1.1.1), ()), p2.2))) : Option ((Bool × Unit) × Heap)).bind fun a3 =>
  bif a3.1.1 then
    (some ((false, ()), a3.2))
  else
    ((lenB p1.1.2.1).bind fun n4 =>
    (mkSl (Heap.next a3.2) 1 1 [(.bool false)] (.int .i64 (n4 : Int)) (.int .i64 (n4 : Int))).bind fun p5 =>
    bnd ((Heap.new a3.2 (p5.2))) fun h6 =>
    (((lenB p1.1.2.1).bind fun n7 =>
      loopT (fun a => f_wicketlaw14_LockRefused_L14 n n7 a.1.1 a.1.2.1 a.2) n (((.slice none 0 0), (0, ())), h6)) : Option ((Value × Unit) × Heap)).bind fun a15 =>
    (lenB p1.1.2.1).bind fun n16 =>
    ((bif decide ((IntKind.u64.wrap ((IntKind.u64.wrap ((n16 : Int))) + 1)) = 0) then
        (none)
      else
        ((fillL [(.int .i64 0)] [(0, 1, (.int .i64 0))]).bind fun cs17 =>
        bnd ((Heap.new a15.2 (.cells cs17 false 1))) fun h18 =>
        (f_lock_Locks_Lay n p1.1.1 (Int.tmod u2 (IntKind.u64.wrap ((IntKind.u64.wrap ((n16 : Int))) + 1))) (.slice (some ⟨Heap.next a15.2, 0, some 0⟩) 1 1) h18).bind fun p19 =>
        (f_wicketlaw14_num n p19.1.1 p19.2).bind fun p20 =>
        bif (!decide (p20.1.1 = 110)) then
          (some ((true, ()), p20.2))
        else
          ((f_lock_Locks_Lay n p1.1.1 (IntKind.u64.wrap ((IntKind.u64.wrap ((n16 : Int))) + 1)) (.slice none 0 0) p20.2).bind fun p21 =>
          (f_wicketlaw14_num n p21.1.1 p21.2).bind fun p22 =>
          bif (!decide (p22.1.1 = 53)) then
            (some ((true, ()), p22.2))
          else
            ((fillL [(.int .i64 0), (.int .i64 0)] [(0, 1, (.int .i64 0)), (1, 1, (.int .i64 0))]).bind fun cs23 =>
            bnd ((Heap.new p22.2 (.cells cs23 false 1))) fun h24 =>
            (f_lock_Locks_Lay n p1.1.1 (IntKind.u64.wrap ((IntKind.u64.wrap ((n16 : Int))) + 1)) (.slice (some ⟨Heap.next p22.2, 0, some 0⟩) 2 2) h24).bind fun p25 =>
            (f_wicketlaw14_num n p25.1.1 p25.2).bind fun p26 =>
            bif (!decide (p26.1.1 = 53)) then
              (some ((true, ()), p26.2))
            else
              ((fillL [(.int .i64 0)] [(0, 1, (.int .i64 p0.1.1))]).bind fun cs27 =>
              bnd ((Heap.new p26.2 (.cells cs27 false 1))) fun h28 =>
              (f_lock_Locks_Lay n p1.1.1 0 (.slice (some ⟨Heap.next p26.2, 0, some 0⟩) 1 1) h28).bind fun p29 =>
              (f_wicketlaw14_num n p29.1.1 p29.2).bind fun p30 =>
              bif (!decide (p30.1.1 = 51)) then
                (some ((true, ()), p30.2))
              else
                ((fillL [(.int .i64 0)] [(0, 1, (.int .i64 (-1)))]).bind fun cs31 =>
                bnd ((Heap.new p30.2 (.cells cs31 false 1))) fun h32 =>
                (f_lock_Locks_Lay n p1.1.1 (IntKind.u64.wrap ((IntKind.u64.wrap ((n16 : Int))) + 1)) (.slice (some ⟨Heap.next p30.2, 0, some 0⟩) 1 1) h32).bind fun p33 =>
                (f_wicketlaw14_num n p33.1.1 p33.2).bind fun p34 =>
                some (((!decide (p34.1.1 = 51)), ()), p34.2))))))) : Option ((Bool × Unit) × Heap)).bind fun a35 =>
    bif a35.1.1 then
      (some ((false, ()), a35.2))
    else
      (thenB (f_wicketlaw14_LockRefused_C52 n u3 p1 n16 (a35.2)) fun a53 =>
      (f_lock_Locks_Take n p1.1.1 (IntKind.u64.wrap ((IntKind.u64.wrap ((IntKind.u64.wrap ((n16 : Int))) + 1)) + (Int.tmod u2 5))) a53.2).bind fun p54 =>
      (f_lock_Locks_Drop n p1.1.1 (IntKind.u64.wrap ((IntKind.u64.wrap ((IntKind.u64.wrap ((n16 : Int))) + 1)) + (Int.tmod u2 5))) p54.2).bind fun p55 =>
      (f_lock_Locks_Take n p1.1.1 0 p55.2).bind fun p56 =>
      (f_wicketlaw14_num n p54.1.2.1 p56.2).bind fun p57 =>
      bif (decide (p57.1.1 = 110)) then
        ((f_wicketlaw14_num n p55.1.2.1 p57.2).bind fun p58 =>
        bif (decide (p58.1.1 = 110)) then
          ((f_wicketlaw14_num n p56.1.2.1 p58.2).bind fun p59 =>
          bif (decide (p59.1.1 = 110)) then
            ((f_wicketlaw14_fair n p1.1.1 p0.1.1 p1.1.2.1 a15.1.1 p5.1 p59.2).bind fun p60 =>
            bif p60.1.1 then
              ((fillL [(.int .i64 0)] [(0, 1, (.int .i64 0))]).bind fun cs61 =>
              bnd ((Heap.new p60.2 (.cells cs61 false 1))) fun h62 =>
              (f_lock_Locks_Lay n p1.1.1 (IntKind.u64.wrap ((IntKind.u64.wrap ((n16 : Int))) + 1)) (.slice (some ⟨Heap.next p60.2, 0, some 0⟩) 1 1) h62).bind fun p63 =>
              (f_wicketlaw14_num n p63.1.1 p63.2).bind fun p64 =>
              some (((decide (p64.1.1 = 0)), ()), p64.2))
            else
              (some ((false, ()), p60.2)))
          else
            (some ((false, ()), p59.2)))
        else
          (some ((false, ()), p58.2)))
      else
        (some ((false, ()), p57.2))))
def rs_wicketlaw14_LockRefused : Rs := [(.tmp 8, .bool)]
def ps_wicketlaw14_LockRefused : List Ty := [(.int .i64), .any, (.int .u64), .any]
theorem e_wicketlaw14_LockRefused (n : Nat) (u0 : Int) (u1 : Value) (u2 : Int) (u3 : Value) (h : Heap) : f_wicketlaw14_LockRefused n u0 u1 u2 u3 h = fB (sf_wicketlaw14_LockRefused n) (it_wicketlaw14_LockRefused n) n c2_wicketlaw14_LockRefused rs_wicketlaw14_LockRefused ps_wicketlaw14_LockRefused (u0, (u1, (u2, (u3, ())))) h := by kernel_rfl
noncomputable def s_wicketlaw14_LockRefused (n : Nat) : Sf1 := mkSf ps_wicketlaw14_LockRefused rs_wicketlaw14_LockRefused fun a h => f_wicketlaw14_LockRefused n a.1 a.2.1 a.2.2.1 a.2.2.2.1 h

/-- The table holds these. -/
structure LfT (T : Nat → Option AFun) : Prop where
  t_wicketlaw14_awake : PrimT_wicketlaw14_awake T
  t_wicketlaw14_blocksOf : T k_wicketlaw14_blocksOf = some ⟨List.map (·.1) rs_wicketlaw14_blocksOf, C2.erase c2_wicketlaw14_blocksOf, none⟩
  t_wicketlaw14_num : T k_wicketlaw14_num = some ⟨List.map (·.1) rs_wicketlaw14_num, C2.erase c2_wicketlaw14_num, none⟩
  t_lock_New : T k_lock_New = some ⟨List.map (·.1) rs_lock_New, C2.erase c2_lock_New, none⟩
  t_wicketlaw14_set : T k_wicketlaw14_set = some ⟨List.map (·.1) rs_wicketlaw14_set, C2.erase c2_wicketlaw14_set, none⟩
  t_wicketlaw14_sameTickets : T k_wicketlaw14_sameTickets = some ⟨List.map (·.1) rs_wicketlaw14_sameTickets, C2.erase c2_wicketlaw14_sameTickets, none⟩
  t_lock_rises : T k_lock_rises = some ⟨List.map (·.1) rs_lock_rises, C2.erase c2_lock_rises, none⟩
  t_ticket_Queue_Put : T k_ticket_Queue_Put = some ⟨List.map (·.1) rs_ticket_Queue_Put, C2.erase c2_ticket_Queue_Put, none⟩
  t_slices_Clone_int_int : T k_slices_Clone_int_int = some ⟨List.map (·.1) rs_slices_Clone_int_int, C2.erase c2_slices_Clone_int_int, none⟩
  t_blocks_Next : T k_blocks_Next = some ⟨List.map (·.1) rs_blocks_Next, C2.erase c2_blocks_Next, none⟩
  t_wicketlaw14_sameInts : T k_wicketlaw14_sameInts = some ⟨List.map (·.1) rs_wicketlaw14_sameInts, C2.erase c2_wicketlaw14_sameInts, none⟩
  t_lock_Locks_Held : T k_lock_Locks_Held = some ⟨List.map (·.1) rs_lock_Locks_Held, C2.erase c2_lock_Locks_Held, none⟩
  t_lock_Locks_Next : T k_lock_Locks_Next = some ⟨List.map (·.1) rs_lock_Locks_Next, C2.erase c2_lock_Locks_Next, none⟩
  t_slices_Delete_uint64_uint64 : T k_slices_Delete_uint64_uint64 = some ⟨List.map (·.1) rs_slices_Delete_uint64_uint64, C2.erase c2_slices_Delete_uint64_uint64, none⟩
  t_ticket_Queue_Len : T k_ticket_Queue_Len = some ⟨List.map (·.1) rs_ticket_Queue_Len, C2.erase c2_ticket_Queue_Len, none⟩
  t_ticket_Queue_All_1 : T k_ticket_Queue_All_1 = some ⟨[], C2.erase c2_ticket_Queue_All_1, none⟩
  t_slices_Index_int_int : T k_slices_Index_int_int = some ⟨List.map (·.1) rs_slices_Index_int_int, C2.erase c2_slices_Index_int_int, none⟩
  t_lock_Locks_Lay : T k_lock_Locks_Lay = some ⟨List.map (·.1) rs_lock_Locks_Lay, C2.erase c2_lock_Locks_Lay, none⟩
  t_wicketlaw14_made : T k_wicketlaw14_made = some ⟨List.map (·.1) rs_wicketlaw14_made, C2.erase c2_wicketlaw14_made, none⟩
  t_ticket_Queue_First : T k_ticket_Queue_First = some ⟨List.map (·.1) rs_ticket_Queue_First, C2.erase c2_ticket_Queue_First, none⟩
  t_ticket_Queue_All : T k_ticket_Queue_All = some ⟨List.map (·.1) rs_ticket_Queue_All, C2.erase c2_ticket_Queue_All, none⟩
  t_ticket_Queue_Place : T k_ticket_Queue_Place = some ⟨List.map (·.1) rs_ticket_Queue_Place, C2.erase c2_ticket_Queue_Place, none⟩
  t_slices_Contains_int_int : T k_slices_Contains_int_int = some ⟨List.map (·.1) rs_slices_Contains_int_int, C2.erase c2_slices_Contains_int_int, none⟩
  t_wicketlaw14_crowd : T k_wicketlaw14_crowd = some ⟨List.map (·.1) rs_wicketlaw14_crowd, C2.erase c2_wicketlaw14_crowd, none⟩
  t_lock_Locks_Ready : T k_lock_Locks_Ready = some ⟨List.map (·.1) rs_lock_Locks_Ready, C2.erase c2_lock_Locks_Ready, none⟩
  t_lock_Locks_Queue : T k_lock_Locks_Queue = some ⟨List.map (·.1) rs_lock_Locks_Queue, C2.erase c2_lock_Locks_Queue, none⟩
  t_ticket_Queue_Drop : T k_ticket_Queue_Drop = some ⟨List.map (·.1) rs_ticket_Queue_Drop, C2.erase c2_ticket_Queue_Drop, none⟩
  t_lock_Locks_Holder : T k_lock_Locks_Holder = some ⟨List.map (·.1) rs_lock_Locks_Holder, C2.erase c2_lock_Locks_Holder, none⟩
  t_lock_Locks_Take : T k_lock_Locks_Take = some ⟨List.map (·.1) rs_lock_Locks_Take, C2.erase c2_lock_Locks_Take, none⟩
  t_lock_Locks_Drop : T k_lock_Locks_Drop = some ⟨List.map (·.1) rs_lock_Locks_Drop, C2.erase c2_lock_Locks_Drop, none⟩
  t_wicketlaw14_fair : T k_wicketlaw14_fair = some ⟨List.map (·.1) rs_wicketlaw14_fair, C2.erase c2_wicketlaw14_fair, none⟩
  t_wicketlaw14_LockRefused : T k_wicketlaw14_LockRefused = some ⟨List.map (·.1) rs_wicketlaw14_LockRefused, C2.erase c2_wicketlaw14_LockRefused, none⟩
variable {T : Nat → Option AFun}
theorem ok_wicketlaw14_awake (hT : LfT T) (n : Nat) : Sf1Ok T k_wicketlaw14_awake (s_wicketlaw14_awake n) := primOk_wicketlaw14_awake hT.t_wicketlaw14_awake n
theorem ok_wicketlaw14_blocksOf (hT : LfT T) (n : Nat) : Sf1Ok T k_wicketlaw14_blocksOf (s_wicketlaw14_blocksOf n) := mkSf_ok (sf := sf_wicketlaw14_blocksOf n) (it := it_wicketlaw14_blocksOf n) (n := n) hT.t_wicketlaw14_blocksOf sfOk_nil itOk_nil fun a h => e_wicketlaw14_blocksOf n a.1 h
theorem ok_wicketlaw14_num (hT : LfT T) (n : Nat) : Sf1Ok T k_wicketlaw14_num (s_wicketlaw14_num n) := mkSf_ok (sf := sf_wicketlaw14_num n) (it := it_wicketlaw14_num n) (n := n) hT.t_wicketlaw14_num sfOk_nil itOk_nil fun a h => e_wicketlaw14_num n a.1 h
theorem ok_lock_New (hT : LfT T) (n : Nat) : Sf1Ok T k_lock_New (s_lock_New n) := mkSf_ok (sf := sf_lock_New n) (it := it_lock_New n) (n := n) hT.t_lock_New sfOk_nil itOk_nil fun a h => e_lock_New n a.1 h
theorem ok_wicketlaw14_set (hT : LfT T) (n : Nat) : Sf1Ok T k_wicketlaw14_set (s_wicketlaw14_set n) := mkSf_ok (sf := sf_wicketlaw14_set n) (it := it_wicketlaw14_set n) (n := n) hT.t_wicketlaw14_set sfOk_nil itOk_nil fun a h => e_wicketlaw14_set n a.1 a.2.1 h
theorem ok_wicketlaw14_sameTickets (hT : LfT T) (n : Nat) : Sf1Ok T k_wicketlaw14_sameTickets (s_wicketlaw14_sameTickets n) := mkSf_ok (sf := sf_wicketlaw14_sameTickets n) (it := it_wicketlaw14_sameTickets n) (n := n) hT.t_wicketlaw14_sameTickets sfOk_nil itOk_nil fun a h => e_wicketlaw14_sameTickets n a.1 a.2.1 h
theorem ok_lock_rises (hT : LfT T) (n : Nat) : Sf1Ok T k_lock_rises (s_lock_rises n) := mkSf_ok (sf := sf_lock_rises n) (it := it_lock_rises n) (n := n) hT.t_lock_rises sfOk_nil itOk_nil fun a h => e_lock_rises n a.1 h
theorem ok_ticket_Queue_Put (hT : LfT T) (n : Nat) : Sf1Ok T k_ticket_Queue_Put (s_ticket_Queue_Put n) := mkSf_ok (sf := sf_ticket_Queue_Put n) (it := it_ticket_Queue_Put n) (n := n) hT.t_ticket_Queue_Put sfOk_nil itOk_nil fun a h => e_ticket_Queue_Put n a.1 a.2.1 h
theorem ok_slices_Clone_int_int (hT : LfT T) (n : Nat) : Sf1Ok T k_slices_Clone_int_int (s_slices_Clone_int_int n) := mkSf_ok (sf := sf_slices_Clone_int_int n) (it := it_slices_Clone_int_int n) (n := n) hT.t_slices_Clone_int_int sfOk_nil itOk_nil fun a h => e_slices_Clone_int_int n a.1 h
theorem ok_blocks_Next (hT : LfT T) (n : Nat) : Sf1Ok T k_blocks_Next (s_blocks_Next n) := mkSf_ok (sf := sf_blocks_Next n) (it := it_blocks_Next n) (n := n) hT.t_blocks_Next sfOk_nil itOk_nil fun a h => e_blocks_Next n a.1 a.2.1 h
theorem ok_wicketlaw14_sameInts (hT : LfT T) (n : Nat) : Sf1Ok T k_wicketlaw14_sameInts (s_wicketlaw14_sameInts n) := mkSf_ok (sf := sf_wicketlaw14_sameInts n) (it := it_wicketlaw14_sameInts n) (n := n) hT.t_wicketlaw14_sameInts sfOk_nil itOk_nil fun a h => e_wicketlaw14_sameInts n a.1 a.2.1 h
theorem ok_lock_Locks_Held (hT : LfT T) (n : Nat) : Sf1Ok T k_lock_Locks_Held (s_lock_Locks_Held n) := mkSf_ok (sf := sf_lock_Locks_Held n) (it := it_lock_Locks_Held n) (n := n) hT.t_lock_Locks_Held (sfOk_cons (ok_slices_Clone_int_int hT n) sfOk_nil) itOk_nil fun a h => e_lock_Locks_Held n a.1 a.2.1 h
theorem ok_lock_Locks_Next (hT : LfT T) (n : Nat) : Sf1Ok T k_lock_Locks_Next (s_lock_Locks_Next n) := mkSf_ok (sf := sf_lock_Locks_Next n) (it := it_lock_Locks_Next n) (n := n) hT.t_lock_Locks_Next (sfOk_cons (ok_blocks_Next hT n) sfOk_nil) itOk_nil fun a h => e_lock_Locks_Next n a.1 a.2.1 h
theorem ok_slices_Delete_uint64_uint64 (hT : LfT T) (n : Nat) : Sf1Ok T k_slices_Delete_uint64_uint64 (s_slices_Delete_uint64_uint64 n) := mkSf_ok (sf := sf_slices_Delete_uint64_uint64 n) (it := it_slices_Delete_uint64_uint64 n) (n := n) hT.t_slices_Delete_uint64_uint64 sfOk_nil itOk_nil fun a h => e_slices_Delete_uint64_uint64 n a.1 a.2.1 a.2.2.1 h
theorem ok_ticket_Queue_Len (hT : LfT T) (n : Nat) : Sf1Ok T k_ticket_Queue_Len (s_ticket_Queue_Len n) := mkSf_ok (sf := sf_ticket_Queue_Len n) (it := it_ticket_Queue_Len n) (n := n) hT.t_ticket_Queue_Len sfOk_nil itOk_nil fun a h => e_ticket_Queue_Len n a.1 h
theorem ok_ticket_Queue_All_1 (hT : LfT T) (n : Nat) : It1Ok T k_ticket_Queue_All_1 (i_ticket_Queue_All_1 n) := mkIt_ok (sf := sf_ticket_Queue_All_1 n) (it := it_ticket_Queue_All_1 n) (n := n) hT.t_ticket_Queue_All_1 sfOk_nil itOk_nil fun V hp up y a1 a2 v => e_ticket_Queue_All_1 hp up y n a2.1 v
theorem ok_slices_Index_int_int (hT : LfT T) (n : Nat) : Sf1Ok T k_slices_Index_int_int (s_slices_Index_int_int n) := mkSf_ok (sf := sf_slices_Index_int_int n) (it := it_slices_Index_int_int n) (n := n) hT.t_slices_Index_int_int sfOk_nil itOk_nil fun a h => e_slices_Index_int_int n a.1 a.2.1 h
theorem ok_lock_Locks_Lay (hT : LfT T) (n : Nat) : Sf1Ok T k_lock_Locks_Lay (s_lock_Locks_Lay n) := mkSf_ok (sf := sf_lock_Locks_Lay n) (it := it_lock_Locks_Lay n) (n := n) hT.t_lock_Locks_Lay (sfOk_cons (ok_lock_rises hT n) (sfOk_cons (ok_ticket_Queue_Put hT n) (sfOk_cons (ok_slices_Clone_int_int hT n) sfOk_nil))) itOk_nil fun a h => e_lock_Locks_Lay n a.1 a.2.1 a.2.2.1 h
theorem ok_wicketlaw14_made (hT : LfT T) (n : Nat) : Sf1Ok T k_wicketlaw14_made (s_wicketlaw14_made n) := mkSf_ok (sf := sf_wicketlaw14_made n) (it := it_wicketlaw14_made n) (n := n) hT.t_wicketlaw14_made (sfOk_cons (ok_lock_New hT n) (sfOk_cons (ok_wicketlaw14_num hT n) (sfOk_cons (ok_lock_Locks_Lay hT n) sfOk_nil))) itOk_nil fun a h => e_wicketlaw14_made n h
theorem ok_ticket_Queue_First (hT : LfT T) (n : Nat) : Sf1Ok T k_ticket_Queue_First (s_ticket_Queue_First n) := mkSf_ok (sf := sf_ticket_Queue_First n) (it := it_ticket_Queue_First n) (n := n) hT.t_ticket_Queue_First (sfOk_cons (ok_ticket_Queue_Len hT n) sfOk_nil) itOk_nil fun a h => e_ticket_Queue_First n a.1 h
theorem ok_ticket_Queue_All (hT : LfT T) (n : Nat) : Sf1Ok T k_ticket_Queue_All (s_ticket_Queue_All n) := mkSf_ok (sf := sf_ticket_Queue_All n) (it := it_ticket_Queue_All n) (n := n) hT.t_ticket_Queue_All sfOk_nil itOk_nil fun a h => e_ticket_Queue_All n a.1 h
theorem ok_ticket_Queue_Place (hT : LfT T) (n : Nat) : Sf1Ok T k_ticket_Queue_Place (s_ticket_Queue_Place n) := mkSf_ok (sf := sf_ticket_Queue_Place n) (it := it_ticket_Queue_Place n) (n := n) hT.t_ticket_Queue_Place (sfOk_cons (ok_ticket_Queue_All hT n) sfOk_nil) (itOk_cons (ok_ticket_Queue_All_1 hT n) itOk_nil) fun a h => e_ticket_Queue_Place n a.1 a.2.1 h
theorem ok_slices_Contains_int_int (hT : LfT T) (n : Nat) : Sf1Ok T k_slices_Contains_int_int (s_slices_Contains_int_int n) := mkSf_ok (sf := sf_slices_Contains_int_int n) (it := it_slices_Contains_int_int n) (n := n) hT.t_slices_Contains_int_int (sfOk_cons (ok_slices_Index_int_int hT n) sfOk_nil) itOk_nil fun a h => e_slices_Contains_int_int n a.1 a.2.1 h
theorem ok_wicketlaw14_crowd (hT : LfT T) (n : Nat) : Sf1Ok T k_wicketlaw14_crowd (s_wicketlaw14_crowd n) := mkSf_ok (sf := sf_wicketlaw14_crowd n) (it := it_wicketlaw14_crowd n) (n := n) hT.t_wicketlaw14_crowd (sfOk_cons (ok_lock_New hT n) (sfOk_cons (ok_wicketlaw14_num hT n) (sfOk_cons (ok_wicketlaw14_set hT n) (sfOk_cons (ok_lock_Locks_Lay hT n) sfOk_nil)))) itOk_nil fun a h => e_wicketlaw14_crowd n a.1 a.2.1 h
theorem ok_lock_Locks_Ready (hT : LfT T) (n : Nat) : Sf1Ok T k_lock_Locks_Ready (s_lock_Locks_Ready n) := mkSf_ok (sf := sf_lock_Locks_Ready n) (it := it_lock_Locks_Ready n) (n := n) hT.t_lock_Locks_Ready (sfOk_cons (ok_lock_Locks_Next hT n) (sfOk_cons (ok_ticket_Queue_First hT n) sfOk_nil)) itOk_nil fun a h => e_lock_Locks_Ready n a.1 a.2.1 h
theorem ok_lock_Locks_Queue (hT : LfT T) (n : Nat) : Sf1Ok T k_lock_Locks_Queue (s_lock_Locks_Queue n) := mkSf_ok (sf := sf_lock_Locks_Queue n) (it := it_lock_Locks_Queue n) (n := n) hT.t_lock_Locks_Queue (sfOk_cons (ok_ticket_Queue_All hT n) sfOk_nil) (itOk_cons (ok_ticket_Queue_All_1 hT n) itOk_nil) fun a h => e_lock_Locks_Queue n a.1 a.2.1 h
theorem ok_ticket_Queue_Drop (hT : LfT T) (n : Nat) : Sf1Ok T k_ticket_Queue_Drop (s_ticket_Queue_Drop n) := mkSf_ok (sf := sf_ticket_Queue_Drop n) (it := it_ticket_Queue_Drop n) (n := n) hT.t_ticket_Queue_Drop (sfOk_cons (ok_ticket_Queue_Place hT n) (sfOk_cons (ok_slices_Delete_uint64_uint64 hT n) sfOk_nil)) itOk_nil fun a h => e_ticket_Queue_Drop n a.1 a.2.1 h
theorem ok_lock_Locks_Holder (hT : LfT T) (n : Nat) : Sf1Ok T k_lock_Locks_Holder (s_lock_Locks_Holder n) := mkSf_ok (sf := sf_lock_Locks_Holder n) (it := it_lock_Locks_Holder n) (n := n) hT.t_lock_Locks_Holder (sfOk_cons (ok_ticket_Queue_First hT n) (sfOk_cons (ok_lock_Locks_Held hT n) (sfOk_cons (ok_slices_Contains_int_int hT n) sfOk_nil))) itOk_nil fun a h => e_lock_Locks_Holder n a.1 a.2.1 h
theorem ok_lock_Locks_Take (hT : LfT T) (n : Nat) : Sf1Ok T k_lock_Locks_Take (s_lock_Locks_Take n) := mkSf_ok (sf := sf_lock_Locks_Take n) (it := it_lock_Locks_Take n) (n := n) hT.t_lock_Locks_Take (sfOk_cons (ok_blocks_Next hT n) (sfOk_cons (ok_lock_Locks_Ready hT n) sfOk_nil)) itOk_nil fun a h => e_lock_Locks_Take n a.1 a.2.1 h
theorem ok_lock_Locks_Drop (hT : LfT T) (n : Nat) : Sf1Ok T k_lock_Locks_Drop (s_lock_Locks_Drop n) := mkSf_ok (sf := sf_lock_Locks_Drop n) (it := it_lock_Locks_Drop n) (n := n) hT.t_lock_Locks_Drop (sfOk_cons (ok_ticket_Queue_Drop hT n) sfOk_nil) itOk_nil fun a h => e_lock_Locks_Drop n a.1 a.2.1 h
theorem ok_wicketlaw14_fair (hT : LfT T) (n : Nat) : Sf1Ok T k_wicketlaw14_fair (s_wicketlaw14_fair n) := mkSf_ok (sf := sf_wicketlaw14_fair n) (it := it_wicketlaw14_fair n) (n := n) hT.t_wicketlaw14_fair (sfOk_cons (ok_lock_Locks_Held hT n) (sfOk_cons (ok_wicketlaw14_sameInts hT n) (sfOk_cons (ok_lock_Locks_Ready hT n) (sfOk_cons (ok_lock_Locks_Queue hT n) (sfOk_cons (ok_lock_Locks_Holder hT n) (sfOk_cons (ok_wicketlaw14_sameTickets hT n) sfOk_nil)))))) itOk_nil fun a h => e_wicketlaw14_fair n a.1 a.2.1 a.2.2.1 a.2.2.2.1 a.2.2.2.2.1 h
theorem ok_wicketlaw14_LockRefused (hT : LfT T) (n : Nat) : Sf1Ok T k_wicketlaw14_LockRefused (s_wicketlaw14_LockRefused n) := mkSf_ok (sf := sf_wicketlaw14_LockRefused n) (it := it_wicketlaw14_LockRefused n) (n := n) hT.t_wicketlaw14_LockRefused (sfOk_cons (ok_wicketlaw14_blocksOf hT n) (sfOk_cons (ok_wicketlaw14_crowd hT n) (sfOk_cons (ok_wicketlaw14_awake hT n) (sfOk_cons (ok_lock_Locks_Lay hT n) (sfOk_cons (ok_wicketlaw14_num hT n) (sfOk_cons (ok_lock_Locks_Take hT n) (sfOk_cons (ok_lock_Locks_Drop hT n) (sfOk_cons (ok_wicketlaw14_fair hT n) sfOk_nil)))))))) itOk_nil fun a h => e_wicketlaw14_LockRefused n a.1 a.2.1 a.2.2.1 a.2.2.2.1 h
end Go.Proofs.Ytadkkmingfajdaa
