/- The functions at hand as plain typed functions, each with the proof that it is what the abstract machine's code does. -/
import Derived.Test.YtpcmjoghflllfaaB9
import Derived.KernelRfl
namespace Go.Proofs.Ytpcmjoghflllfaa
open Go
set_option linter.unusedVariables false
set_option maxRecDepth 100000
def k_wicketlaw11_awake : Nat := 4
def k_wicketlaw11_same : Nat := 7
def k_ticket_Queue_Put : Nat := 8
def k_wicketref11_Queue_Put : Nat := 11
def k_wicketref11_Queue_First : Nat := 13
def k_ticket_Queue_Len : Nat := 14
def k_wicketref11_Queue_Place : Nat := 15
def k_wicketref11_Queue_Drop : Nat := 18
def k_wicketref11_Queue_Copy : Nat := 21
def k_slices_Delete_uint64_uint64 : Nat := 22
def k_ticket_Queue_All_1 : Nat := 23
def k_slices_Clone_uint64_uint64 : Nat := 24
def k_ticket_Queue_First : Nat := 12
def k_wicketref11_Queue_Take : Nat := 16
def k_ticket_Queue_All : Nat := 19
def k_ticket_Queue_Copy : Nat := 20
def k_wicketlaw11_listed : Nat := 6
def k_ticket_Queue_Take : Nat := 9
def k_ticket_Queue_Place : Nat := 10
def k_ticket_Queue_Drop : Nat := 17
def k_wicketlaw11_pair_plays : Nat := 5
def k_wicketlaw11_TicketPlays : Nat := 3

def f_wicketlaw11_awake (n : Nat) (h : Heap) : Option ((Bool × Unit) × Heap) := yesB h
noncomputable def s_wicketlaw11_awake (n : Nat) : Sf1 := mkSf [] [(.tmp 0, .bool)] fun a h => f_wicketlaw11_awake n h
def PrimT_wicketlaw11_awake (T : Nat → Option AFun) : Prop := T k_wicketlaw11_awake = some ⟨[], .skip, some yes⟩
theorem primOk_wicketlaw11_awake {T : Nat → Option AFun} (hT : PrimT_wicketlaw11_awake T) (n : Nat) : Sf1Ok T k_wicketlaw11_awake (s_wicketlaw11_awake n) := yes_sf hT

/- wicket/wicketlaw11.same -/
def c2_wicketlaw11_same : C2 :=
  .seq (.reg [(⟨(some 4), .move (.const (.bool false)), none⟩, .bool)]) <|
  .seq (.seq (.reg [(⟨(some 6), .move (.tmp 0), none⟩, .any),
        (⟨(some 7), .lenS (.tmp 6), none⟩, (.int .i64)),
        (⟨(some 8), .move (.tmp 1), none⟩, .any),
        (⟨(some 9), .lenS (.tmp 8), none⟩, (.int .i64)),
        (⟨(some 10), .bin .neq (.tmp 7) (.tmp 9), none⟩, .bool)]) <|
    .cond (.tmp 10)
      (.seq (.reg [(⟨(some 4), .move (.const (.bool false)), none⟩, .bool)]) <|
      .ret)
      (.skip)) <|
  .seq (.seq (.reg [(⟨(some 11), .move (.tmp 0), none⟩, .any),
        (⟨(some 12), .lenS (.tmp 11), none⟩, (.int .i64)),
        (⟨(some 13), .move (.const (.int .i64 0)), none⟩, (.int .i64))]) <|
    .block 0 <|
      .loop [(13, (.int .i64))] <|
        .seq (.reg [(⟨(some 14), .bin .lss (.tmp 13) (.tmp 12), none⟩, .any)]) <|
        .seq (.cond (.tmp 14)
            (.skip)
            (.exit 0)) <|
        .seq (.block 1 <|
            .seq (.reg [(⟨(some 15), .move (.tmp 13), none⟩, (.int .i64)),
                (⟨(some 5), .move (.tmp 15), none⟩, (.int .i64))]) <|
            .seq (.regd [(⟨0, [], false, ⟨(some 16), .move (.tmp 0), none⟩⟩, .any),
                (⟨1, [], false, ⟨(some 17), .move (.tmp 5), none⟩⟩, (.int .i64)),
                (⟨2, [0, 1], false, ⟨(some 18), .idxSlice 1 (.tmp 16) (.tmp 17), none⟩⟩, .ptr),
                (⟨3, [2, 0, 1], false, ⟨(some 19), .load false 1 (.tmp 18), none⟩⟩, (.int .u64)),
                (⟨4, [], false, ⟨(some 20), .move (.tmp 1), none⟩⟩, .any),
                (⟨5, [], false, ⟨(some 21), .move (.tmp 5), none⟩⟩, (.int .i64)),
                (⟨6, [4, 5], false, ⟨(some 22), .idxSlice 1 (.tmp 20) (.tmp 21), none⟩⟩, .ptr),
                (⟨7, [6, 4, 5], false, ⟨(some 23), .load false 1 (.tmp 22), none⟩⟩, (.int .u64)),
                (⟨8, [3, 7, 2, 0, 1, 6, 4, 5], false, ⟨(some 24), .bin .neq (.tmp 19) (.tmp 23), none⟩⟩, .bool)]) <|
            .cond (.tmp 24)
              (.seq (.reg [(⟨(some 4), .move (.const (.bool false)), none⟩, .bool)]) <|
              .ret)
              (.skip)) <|
        .reg [(⟨(some 25), .bin .add (.tmp 13) (.const (.int .i64 1)), none⟩, (.int .i64)),
          (⟨(some 13), .move (.tmp 25), none⟩, (.int .i64))]) <|
  .seq (.reg [(⟨(some 4), .move (.const (.bool true)), none⟩, .bool)]) <|
  .ret
def f_wicketlaw11_same_L9 (n : Nat) (u1 : Value) (u0 : Value) (n2 : Nat) (v3 : Int) (h4 : Heap) : Option (((Int × Unit) × Heap) ⊕ ((Bool × Unit) × Heap)) :=
  bif (decide (v3 < (n2 : Int))) then
    ((ixB 1 u0 v3).bind fun q5 =>
    (ldT (.int .u64) h4 (some q5)).bind fun x6 =>
    (ixB 1 u1 v3).bind fun q7 =>
    (ldT (.int .u64) h4 (some q7)).bind fun x8 =>
    bif (!decide (x6 = x8)) then
      (some (.inr ((false, ()), h4)))
    else
      (some (.inl (((IntKind.i64.wrap (v3 + 1)), ()), h4))))
  else
    (some (.inr ((true, ()), h4)))
noncomputable def sf_wicketlaw11_same (n : Nat) : Sf := sfOf []
noncomputable def it_wicketlaw11_same (n : Nat) : It := itOf []
def f_wicketlaw11_same (n : Nat) (u0 : Value) (u1 : Value) (h : Heap) : Option ((Bool × Unit) × Heap) :=
  (lenB u0).bind fun n0 =>
  (lenB u1).bind fun n1 =>
  bif (!decide ((n0 : Int) = (n1 : Int))) then
    (some ((false, ()), h))
  else
    ((lenB u0).bind fun n2 =>
    loopT (fun a => f_wicketlaw11_same_L9 n u1 u0 n2 a.1.1 a.2) n ((0, ()), h))
def rs_wicketlaw11_same : Rs := [(.tmp 4, .bool)]
def ps_wicketlaw11_same : List Ty := [.any, .any]
theorem e_wicketlaw11_same (n : Nat) (u0 : Value) (u1 : Value) (h : Heap) : f_wicketlaw11_same n u0 u1 h = fB (sf_wicketlaw11_same n) (it_wicketlaw11_same n) n c2_wicketlaw11_same rs_wicketlaw11_same ps_wicketlaw11_same (u0, (u1, ())) h := by kernel_rfl
noncomputable def s_wicketlaw11_same (n : Nat) : Sf1 := mkSf ps_wicketlaw11_same rs_wicketlaw11_same fun a h => f_wicketlaw11_same n a.1 a.2.1 h

/- (*wicket/ticket.Queue).Put -/
def c2_ticket_Queue_Put : C2 :=
  .seq (.reg [(⟨(some 4), .move (.const (.int .i64 0)), none⟩, (.int .i64))]) <|
  .seq (.block 0 <|
      .seq (.reg [(⟨(some 6), .move (.tmp 0), none⟩, .ptr),
          (⟨(some 7), .eqv false .ptr (.tmp 6) (.const (.pointer none)), none⟩, .bool),
          (⟨(some 5), .move (.tmp 7), none⟩, .bool)]) <|
      .cond (.tmp 5)
        (.seq (.reg [(⟨(some 4), .move (.const (.int .i64 1)), none⟩, (.int .i64))]) <|
        .ret)
        (.seq (.reg [(⟨(some 9), .move (.tmp 1), none⟩, (.int .u64)),
            (⟨(some 10), .move (.tmp 0), none⟩, .ptr),
            (⟨(some 11), .nilCheck (.tmp 10), none⟩, .ptr),
            (⟨(some 12), .fieldAddr 1 (.tmp 11), none⟩, .ptr),
            (⟨(some 13), .load false 1 (.tmp 12), none⟩, (.int .u64)),
            (⟨(some 14), .bin .leq (.tmp 9) (.tmp 13), none⟩, .bool),
            (⟨(some 8), .move (.tmp 14), none⟩, .bool)]) <|
        .cond (.tmp 8)
          (.seq (.reg [(⟨(some 4), .move (.const (.int .i64 110)), none⟩, (.int .i64))]) <|
          .ret)
          (.skip))) <|
  .seq (.reg [(⟨(some 15), .move (.tmp 0), none⟩, .ptr),
      (⟨(some 16), .move (.tmp 0), none⟩, .ptr),
      (⟨(some 17), .nilCheck (.tmp 16), none⟩, .ptr),
      (⟨(some 18), .fieldAddr 0 (.tmp 17), none⟩, .ptr),
      (⟨(some 19), .load false 1 (.tmp 18), none⟩, .any),
      (⟨(some 20), .move (.tmp 1), none⟩, (.int .u64)),
      (⟨(some 21), .buildSlice 1 1 [(.int .u64 0)] [(0, 1, (.tmp 20))], none⟩, .any),
      (⟨(some 22), .append 8 1 (.tmp 19) (.tmp 21), none⟩, .any),
      (⟨(some 23), .nilCheck (.tmp 15), none⟩, .ptr),
      (⟨(some 24), .fieldAddr 0 (.tmp 23), none⟩, .ptr),
      (⟨none, .store 1 (.tmp 24) (.tmp 22), none⟩, .any)]) <|
  .seq (.reg [(⟨(some 25), .move (.tmp 0), none⟩, .ptr),
      (⟨(some 26), .move (.tmp 1), none⟩, (.int .u64)),
      (⟨(some 27), .nilCheck (.tmp 25), none⟩, .ptr),
      (⟨(some 28), .fieldAddr 1 (.tmp 27), none⟩, .ptr),
      (⟨none, .store 1 (.tmp 28) (.tmp 26), none⟩, .any)]) <|
  .seq (.reg [(⟨(some 4), .move (.const (.int .i64 0)), none⟩, (.int .i64))]) <|
  .ret
noncomputable def sf_ticket_Queue_Put (n : Nat) : Sf := sfOf []
noncomputable def it_ticket_Queue_Put (n : Nat) : It := itOf []
def f_ticket_Queue_Put (n : Nat) (u0 : Option Addr) (u1 : Int) (h : Heap) : Option ((Int × Unit) × Heap) :=
  bif (Option.isNone u0) then
    (some ((1, ()), h))
  else
    ((u0).bind fun q0 =>
    (ldT (.int .u64) h (some (fa q0 1))).bind fun x1 =>
    bif (decide (u1 ≤ x1)) then
      (some ((110, ()), h))
    else
      ((u0).bind fun q2 =>
      (ldT .any h (some (fa q2 0))).bind fun x3 =>
      (fillL [(.int .u64 0)] [(0, 1, (.int .u64 u1))]).bind fun cs4 =>
      bnd ((Heap.new h (.cells cs4 false 1))) fun h5 =>
      (appendK h5 8 1 x3 (.slice (some ⟨Heap.next h, 0, some 0⟩) 1 1)).bind fun p6 =>
      (u0).bind fun q7 =>
      (stB 1 p6.1 p6.2 (some (fa q7 0))).bind fun h8 =>
      (u0).bind fun q9 =>
      (stB 1 (.int .u64 u1) h8 (some (fa q9 1))).bind fun h10 =>
      some ((0, ()), h10)))
def rs_ticket_Queue_Put : Rs := [(.tmp 4, (.int .i64))]
def ps_ticket_Queue_Put : List Ty := [.ptr, (.int .u64)]
theorem e_ticket_Queue_Put (n : Nat) (u0 : Option Addr) (u1 : Int) (h : Heap) : f_ticket_Queue_Put n u0 u1 h = fB (sf_ticket_Queue_Put n) (it_ticket_Queue_Put n) n c2_ticket_Queue_Put rs_ticket_Queue_Put ps_ticket_Queue_Put (u0, (u1, ())) h := by kernel_rfl
noncomputable def s_ticket_Queue_Put (n : Nat) : Sf1 := mkSf ps_ticket_Queue_Put rs_ticket_Queue_Put fun a h => f_ticket_Queue_Put n a.1 a.2.1 h

/- (*wicket/wicketref11.Queue).Put -/
def c2_wicketref11_Queue_Put : C2 :=
  .seq (.reg [(⟨(some 4), .move (.const (.int .i64 0)), none⟩, (.int .i64))]) <|
  .seq (.seq (.reg [(⟨(some 5), .move (.tmp 1), none⟩, (.int .u64)),
        (⟨(some 6), .move (.tmp 0), none⟩, .ptr),
        (⟨(some 7), .nilCheck (.tmp 6), none⟩, .ptr),
        (⟨(some 8), .fieldAddr 1 (.tmp 7), none⟩, .ptr),
        (⟨(some 9), .load false 1 (.tmp 8), none⟩, (.int .u64)),
        (⟨(some 10), .bin .leq (.tmp 5) (.tmp 9), none⟩, .bool)]) <|
    .cond (.tmp 10)
      (.seq (.reg [(⟨(some 4), .move (.const (.int .i64 110)), none⟩, (.int .i64))]) <|
      .ret)
      (.skip)) <|
  .seq (.reg [(⟨(some 11), .move (.tmp 0), none⟩, .ptr),
      (⟨(some 12), .move (.tmp 1), none⟩, (.int .u64)),
      (⟨(some 13), .nilCheck (.tmp 11), none⟩, .ptr),
      (⟨(some 14), .fieldAddr 1 (.tmp 13), none⟩, .ptr),
      (⟨none, .store 1 (.tmp 14) (.tmp 12), none⟩, .any)]) <|
  .seq (.reg [(⟨(some 15), .move (.tmp 0), none⟩, .ptr),
      (⟨(some 16), .move (.tmp 0), none⟩, .ptr),
      (⟨(some 17), .nilCheck (.tmp 16), none⟩, .ptr),
      (⟨(some 18), .fieldAddr 0 (.tmp 17), none⟩, .ptr),
      (⟨(some 19), .load false 1 (.tmp 18), none⟩, .any),
      (⟨(some 20), .move (.tmp 1), none⟩, (.int .u64)),
      (⟨(some 21), .buildSlice 1 1 [(.int .u64 0)] [(0, 1, (.tmp 20))], none⟩, .any),
      (⟨(some 22), .append 8 1 (.tmp 19) (.tmp 21), none⟩, .any),
      (⟨(some 23), .nilCheck (.tmp 15), none⟩, .ptr),
      (⟨(some 24), .fieldAddr 0 (.tmp 23), none⟩, .ptr),
      (⟨none, .store 1 (.tmp 24) (.tmp 22), none⟩, .any)]) <|
  .seq (.reg [(⟨(some 4), .move (.const (.int .i64 0)), none⟩, (.int .i64))]) <|
  .ret
noncomputable def sf_wicketref11_Queue_Put (n : Nat) : Sf := sfOf []
noncomputable def it_wicketref11_Queue_Put (n : Nat) : It := itOf []
def f_wicketref11_Queue_Put (n : Nat) (u0 : Option Addr) (u1 : Int) (h : Heap) : Option ((Int × Unit) × Heap) :=
  (u0).bind fun q0 =>
  (ldT (.int .u64) h (some (fa q0 1))).bind fun x1 =>
  bif (decide (u1 ≤ x1)) then
    (some ((110, ()), h))
  else
    ((u0).bind fun q2 =>
    (stB 1 (.int .u64 u1) h (some (fa q2 1))).bind fun h3 =>
    (u0).bind fun q4 =>
    (ldT .any h3 (some (fa q4 0))).bind fun x5 =>
    (fillL [(.int .u64 0)] [(0, 1, (.int .u64 u1))]).bind fun cs6 =>
    bnd ((Heap.new h3 (.cells cs6 false 1))) fun h7 =>
    (appendK h7 8 1 x5 (.slice (some ⟨Heap.next h3, 0, some 0⟩) 1 1)).bind fun p8 =>
    (u0).bind fun q9 =>
    (stB 1 p8.1 p8.2 (some (fa q9 0))).bind fun h10 =>
    some ((0, ()), h10))
def rs_wicketref11_Queue_Put : Rs := [(.tmp 4, (.int .i64))]
def ps_wicketref11_Queue_Put : List Ty := [.ptr, (.int .u64)]
theorem e_wicketref11_Queue_Put (n : Nat) (u0 : Option Addr) (u1 : Int) (h : Heap) : f_wicketref11_Queue_Put n u0 u1 h = fB (sf_wicketref11_Queue_Put n) (it_wicketref11_Queue_Put n) n c2_wicketref11_Queue_Put rs_wicketref11_Queue_Put ps_wicketref11_Queue_Put (u0, (u1, ())) h := by kernel_rfl
noncomputable def s_wicketref11_Queue_Put (n : Nat) : Sf1 := mkSf ps_wicketref11_Queue_Put rs_wicketref11_Queue_Put fun a h => f_wicketref11_Queue_Put n a.1 a.2.1 h

/- (*wicket/wicketref11.Queue).First -/
def c2_wicketref11_Queue_First : C2 :=
  .seq (.reg [(⟨(some 2), .move (.const (.int .u64 0)), none⟩, (.int .u64)),
      (⟨(some 3), .move (.const (.bool false)), none⟩, .bool)]) <|
  .seq (.seq (.reg [(⟨(some 4), .move (.tmp 0), none⟩, .ptr),
        (⟨(some 5), .nilCheck (.tmp 4), none⟩, .ptr),
        (⟨(some 6), .fieldAddr 0 (.tmp 5), none⟩, .ptr),
        (⟨(some 7), .load false 1 (.tmp 6), none⟩, .any),
        (⟨(some 8), .lenS (.tmp 7), none⟩, (.int .i64)),
        (⟨(some 9), .bin .eql (.tmp 8) (.const (.int .i64 0)), none⟩, .bool)]) <|
    .cond (.tmp 9)
      (.seq (.reg [(⟨(some 2), .move (.const (.int .u64 0)), none⟩, (.int .u64)),
          (⟨(some 3), .move (.const (.bool false)), none⟩, .bool)]) <|
      .ret)
      (.skip)) <|
  .seq (.reg [(⟨(some 10), .move (.tmp 0), none⟩, .ptr),
      (⟨(some 11), .nilCheck (.tmp 10), none⟩, .ptr),
      (⟨(some 12), .fieldAddr 0 (.tmp 11), none⟩, .ptr),
      (⟨(some 13), .load false 1 (.tmp 12), none⟩, .any),
      (⟨(some 14), .idxSlice 1 (.tmp 13) (.const (.int .i64 0)), none⟩, .ptr),
      (⟨(some 15), .load false 1 (.tmp 14), none⟩, (.int .u64)),
      (⟨(some 2), .move (.tmp 15), none⟩, (.int .u64)),
      (⟨(some 3), .move (.const (.bool true)), none⟩, .bool)]) <|
  .ret
noncomputable def sf_wicketref11_Queue_First (n : Nat) : Sf := sfOf []
noncomputable def it_wicketref11_Queue_First (n : Nat) : It := itOf []
def f_wicketref11_Queue_First (n : Nat) (u0 : Option Addr) (h : Heap) : Option ((Int × Bool × Unit) × Heap) :=
  (u0).bind fun q0 =>
  (ldT .any h (some (fa q0 0))).bind fun x1 =>
  (lenB x1).bind fun n2 =>
  bif (decide ((n2 : Int) = 0)) then
    (some ((0, (false, ())), h))
  else
    ((u0).bind fun q3 =>
    (ldT .any h (some (fa q3 0))).bind fun x4 =>
    (ixB 1 x4 0).bind fun q5 =>
    (ldT (.int .u64) h (some q5)).bind fun x6 =>
    some ((x6, (true, ())), h))
def rs_wicketref11_Queue_First : Rs := [(.tmp 2, (.int .u64)), (.tmp 3, .bool)]
def ps_wicketref11_Queue_First : List Ty := [.ptr]
theorem e_wicketref11_Queue_First (n : Nat) (u0 : Option Addr) (h : Heap) : f_wicketref11_Queue_First n u0 h = fB (sf_wicketref11_Queue_First n) (it_wicketref11_Queue_First n) n c2_wicketref11_Queue_First rs_wicketref11_Queue_First ps_wicketref11_Queue_First (u0, ()) h := by kernel_rfl
noncomputable def s_wicketref11_Queue_First (n : Nat) : Sf1 := mkSf ps_wicketref11_Queue_First rs_wicketref11_Queue_First fun a h => f_wicketref11_Queue_First n a.1 h

/- (*wicket/ticket.Queue).Len -/
def c2_ticket_Queue_Len : C2 :=
  .seq (.reg [(⟨(some 2), .move (.const (.int .i64 0)), none⟩, (.int .i64))]) <|
  .seq (.seq (.reg [(⟨(some 3), .move (.tmp 0), none⟩, .ptr),
        (⟨(some 4), .eqv false .ptr (.tmp 3) (.const (.pointer none)), none⟩, .bool)]) <|
    .cond (.tmp 4)
      (.seq (.reg [(⟨(some 2), .move (.const (.int .i64 0)), none⟩, (.int .i64))]) <|
      .ret)
      (.skip)) <|
  .seq (.reg [(⟨(some 5), .move (.tmp 0), none⟩, .ptr),
      (⟨(some 6), .nilCheck (.tmp 5), none⟩, .ptr),
      (⟨(some 7), .fieldAddr 0 (.tmp 6), none⟩, .ptr),
      (⟨(some 8), .load false 1 (.tmp 7), none⟩, .any),
      (⟨(some 9), .lenS (.tmp 8), none⟩, (.int .i64)),
      (⟨(some 2), .move (.tmp 9), none⟩, (.int .i64))]) <|
  .ret
noncomputable def sf_ticket_Queue_Len (n : Nat) : Sf := sfOf []
noncomputable def it_ticket_Queue_Len (n : Nat) : It := itOf []
def f_ticket_Queue_Len (n : Nat) (u0 : Option Addr) (h : Heap) : Option ((Int × Unit) × Heap) :=
  bif (Option.isNone u0) then
    (some ((0, ()), h))
  else
    ((u0).bind fun q0 =>
    (ldT .any h (some (fa q0 0))).bind fun x1 =>
    (lenB x1).bind fun n2 =>
    some (((n2 : Int), ()), h))
def rs_ticket_Queue_Len : Rs := [(.tmp 2, (.int .i64))]
def ps_ticket_Queue_Len : List Ty := [.ptr]
theorem e_ticket_Queue_Len (n : Nat) (u0 : Option Addr) (h : Heap) : f_ticket_Queue_Len n u0 h = fB (sf_ticket_Queue_Len n) (it_ticket_Queue_Len n) n c2_ticket_Queue_Len rs_ticket_Queue_Len ps_ticket_Queue_Len (u0, ()) h := by kernel_rfl
noncomputable def s_ticket_Queue_Len (n : Nat) : Sf1 := mkSf ps_ticket_Queue_Len rs_ticket_Queue_Len fun a h => f_ticket_Queue_Len n a.1 h

/- (*wicket/wicketref11.Queue).Place -/
def c2_wicketref11_Queue_Place : C2 :=
  .seq (.reg [(⟨(some 4), .move (.const (.int .i64 0)), none⟩, (.int .i64))]) <|
  .seq (.seq (.reg [(⟨(some 5), .move (.const (.int .i64 0)), none⟩, (.int .i64))]) <|
    .block 0 <|
      .loop [(5, (.int .i64))] <|
        .seq (.seq (.reg [(⟨(some 6), .move (.tmp 5), none⟩, (.int .i64)),
              (⟨(some 7), .move (.tmp 0), none⟩, .ptr),
              (⟨(some 8), .nilCheck (.tmp 7), none⟩, .ptr),
              (⟨(some 9), .fieldAddr 0 (.tmp 8), none⟩, .ptr),
              (⟨(some 10), .load false 1 (.tmp 9), none⟩, .any),
              (⟨(some 11), .lenS (.tmp 10), none⟩, (.int .i64)),
              (⟨(some 12), .bin .lss (.tmp 6) (.tmp 11), none⟩, .bool)]) <|
          .cond (.tmp 12)
            (.skip)
            (.exit 0)) <|
        .seq (.block 1 <|
            .seq (.reg [(⟨(some 15), .move (.tmp 0), none⟩, .ptr),
                (⟨(some 16), .nilCheck (.tmp 15), none⟩, .ptr),
                (⟨(some 17), .fieldAddr 0 (.tmp 16), none⟩, .ptr),
                (⟨(some 18), .load false 1 (.tmp 17), none⟩, .any),
                (⟨(some 19), .move (.tmp 5), none⟩, (.int .i64)),
                (⟨(some 20), .idxSlice 1 (.tmp 18) (.tmp 19), none⟩, .ptr),
                (⟨(some 21), .load false 1 (.tmp 20), none⟩, (.int .u64)),
                (⟨(some 22), .move (.tmp 1), none⟩, (.int .u64)),
                (⟨(some 23), .bin .eql (.tmp 21) (.tmp 22), none⟩, .bool)]) <|
            .cond (.tmp 23)
              (.seq (.reg [(⟨(some 24), .move (.tmp 5), none⟩, (.int .i64)),
                  (⟨(some 4), .move (.tmp 24), none⟩, (.int .i64))]) <|
              .ret)
              (.skip)) <|
        .reg [(⟨(some 13), .move (.tmp 5), none⟩, (.int .i64)),
          (⟨(some 14), .bin .add (.tmp 13) (.const (.int .i64 1)), none⟩, (.int .i64)),
          (⟨(some 5), .move (.tmp 14), none⟩, (.int .i64))]) <|
  .seq (.reg [(⟨(some 4), .move (.const (.int .i64 (-1))), none⟩, (.int .i64))]) <|
  .ret
def f_wicketref11_Queue_Place_L9 (n : Nat) (u1 : Int) (u0 : Option Addr) (v0 : Int) (h1 : Heap) : Option (((Int × Unit) × Heap) ⊕ ((Int × Unit) × Heap)) :=
  (u0).bind fun q2 =>
  (ldT .any h1 (some (fa q2 0))).bind fun x3 =>
  (lenB x3).bind fun n4 =>
  bif (decide (v0 < (n4 : Int))) then
    ((u0).bind fun q5 =>
    (ldT .any h1 (some (fa q5 0))).bind fun x6 =>
    (ixB 1 x6 v0).bind fun q7 =>
    (ldT (.int .u64) h1 (some q7)).bind fun x8 =>
    bif (decide (x8 = u1)) then
      (some (.inr ((v0, ()), h1)))
    else
      (some (.inl (((IntKind.i64.wrap (v0 + 1)), ()), h1))))
  else
    (some (.inr (((-1), ()), h1)))
noncomputable def sf_wicketref11_Queue_Place (n : Nat) : Sf := sfOf []
noncomputable def it_wicketref11_Queue_Place (n : Nat) : It := itOf []
def f_wicketref11_Queue_Place (n : Nat) (u0 : Option Addr) (u1 : Int) (h : Heap) : Option ((Int × Unit) × Heap) :=
  loopT (fun a => f_wicketref11_Queue_Place_L9 n u1 u0 a.1.1 a.2) n ((0, ()), h)
def rs_wicketref11_Queue_Place : Rs := [(.tmp 4, (.int .i64))]
def ps_wicketref11_Queue_Place : List Ty := [.ptr, (.int .u64)]
theorem e_wicketref11_Queue_Place (n : Nat) (u0 : Option Addr) (u1 : Int) (h : Heap) : f_wicketref11_Queue_Place n u0 u1 h = fB (sf_wicketref11_Queue_Place n) (it_wicketref11_Queue_Place n) n c2_wicketref11_Queue_Place rs_wicketref11_Queue_Place ps_wicketref11_Queue_Place (u0, (u1, ())) h := by kernel_rfl
noncomputable def s_wicketref11_Queue_Place (n : Nat) : Sf1 := mkSf ps_wicketref11_Queue_Place rs_wicketref11_Queue_Place fun a h => f_wicketref11_Queue_Place n a.1 a.2.1 h

/- (*wicket/wicketref11.Queue).Drop -/
def c2_wicketref11_Queue_Drop : C2 :=
  .seq (.reg [(⟨(some 4), .move (.const (.int .i64 0)), none⟩, (.int .i64))]) <|
  .seq (.reg [(⟨(some 5), .move (.const (.slice none 0 0)), none⟩, .any)]) <|
  .seq (.reg [(⟨(some 6), .move (.const (.int .i64 110)), none⟩, (.int .i64))]) <|
  .seq (.cutn [(5, .any), (6, (.int .i64))] <|
      .seq (.reg [(⟨(some 7), .move (.const (.int .i64 0)), none⟩, (.int .i64))]) <|
      .block 0 <|
        .loop [(5, .any), (6, (.int .i64)), (7, (.int .i64))] <|
          .seq (.seq (.reg [(⟨(some 8), .move (.tmp 7), none⟩, (.int .i64)),
                (⟨(some 9), .move (.tmp 0), none⟩, .ptr),
                (⟨(some 10), .nilCheck (.tmp 9), none⟩, .ptr),
                (⟨(some 11), .fieldAddr 0 (.tmp 10), none⟩, .ptr),
                (⟨(some 12), .load false 1 (.tmp 11), none⟩, .any),
                (⟨(some 13), .lenS (.tmp 12), none⟩, (.int .i64)),
                (⟨(some 14), .bin .lss (.tmp 8) (.tmp 13), none⟩, .bool)]) <|
            .cond (.tmp 14)
              (.skip)
              (.exit 0)) <|
          .seq (.cutn [(5, .any), (6, (.int .i64))] <|
              .block 1 <|
                .seq (.reg [(⟨(some 17), .move (.tmp 0), none⟩, .ptr),
                    (⟨(some 18), .nilCheck (.tmp 17), none⟩, .ptr),
                    (⟨(some 19), .fieldAddr 0 (.tmp 18), none⟩, .ptr),
                    (⟨(some 20), .load false 1 (.tmp 19), none⟩, .any),
                    (⟨(some 21), .move (.tmp 7), none⟩, (.int .i64)),
                    (⟨(some 22), .idxSlice 1 (.tmp 20) (.tmp 21), none⟩, .ptr),
                    (⟨(some 23), .load false 1 (.tmp 22), none⟩, (.int .u64)),
                    (⟨(some 24), .move (.tmp 1), none⟩, (.int .u64)),
                    (⟨(some 25), .bin .eql (.tmp 23) (.tmp 24), none⟩, .bool)]) <|
                .cond (.tmp 25)
                  (.reg [(⟨(some 6), .move (.const (.int .i64 0)), none⟩, (.int .i64))])
                  (.reg [(⟨(some 26), .move (.tmp 5), none⟩, .any),
                    (⟨(some 27), .move (.tmp 0), none⟩, .ptr),
                    (⟨(some 28), .nilCheck (.tmp 27), none⟩, .ptr),
                    (⟨(some 29), .fieldAddr 0 (.tmp 28), none⟩, .ptr),
                    (⟨(some 30), .load false 1 (.tmp 29), none⟩, .any),
                    (⟨(some 31), .move (.tmp 7), none⟩, (.int .i64)),
                    (⟨(some 32), .idxSlice 1 (.tmp 30) (.tmp 31), none⟩, .ptr),
                    (⟨(some 33), .load false 1 (.tmp 32), none⟩, (.int .u64)),
                    (⟨(some 34), .buildSlice 1 1 [(.int .u64 0)] [(0, 1, (.tmp 33))], none⟩, .any),
                    (⟨(some 35), .append 8 1 (.tmp 26) (.tmp 34), none⟩, .any),
                    (⟨(some 5), .move (.tmp 35), none⟩, .any)])) <|
          .reg [(⟨(some 15), .move (.tmp 7), none⟩, (.int .i64)),
            (⟨(some 16), .bin .add (.tmp 15) (.const (.int .i64 1)), none⟩, (.int .i64)),
            (⟨(some 7), .move (.tmp 16), none⟩, (.int .i64))]) <|
  .seq (.reg [(⟨(some 36), .move (.tmp 0), none⟩, .ptr),
      (⟨(some 37), .move (.tmp 5), none⟩, .any),
      (⟨(some 38), .nilCheck (.tmp 36), none⟩, .ptr),
      (⟨(some 39), .fieldAddr 0 (.tmp 38), none⟩, .ptr),
      (⟨none, .store 1 (.tmp 39) (.tmp 37), none⟩, .any)]) <|
  .seq (.reg [(⟨(some 40), .move (.tmp 6), none⟩, (.int .i64)),
      (⟨(some 4), .move (.tmp 40), none⟩, (.int .i64))]) <|
  .ret
def f_wicketref11_Queue_Drop_L19 (n : Nat) (u1 : Int) (u0 : Option Addr) (v0 : Value) (v1 : Int) (v2 : Int) (h3 : Heap) : Option (((Value × Int × Int × Unit) × Heap) ⊕ ((Value × Int × Unit) × Heap)) :=
  (u0).bind fun q4 =>
  (ldT .any h3 (some (fa q4 0))).bind fun x5 =>
  (lenB x5).bind fun n6 =>
  bif (decide (v2 < (n6 : Int))) then
    ((((u0).bind fun q7 =>
      (ldT .any h3 (some (fa q7 0))).bind fun x8 =>
      (ixB 1 x8 v2).bind fun q9 =>
      (ldT (.int .u64) h3 (some q9)).bind fun x10 =>
      bif (decide (x10 = u1)) then
        (some ((v0, (0, ())), h3))
      else
        ((u0).bind fun q11 =>
        (ldT .any h3 (some (fa q11 0))).bind fun x12 =>
        (ixB 1 x12 v2).bind fun q13 =>
        (ldT (.int .u64) h3 (some q13)).bind fun x14 =>
        (fillL [(.int .u64 0)] [(0, 1, (.int .u64 x14))]).bind fun cs15 =>
        bnd ((Heap.new h3 (.cells cs15 false 1))) fun h16 =>
        (appendK h16 8 1 v0 (.slice (some ⟨Heap.next h3, 0, some 0⟩) 1 1)).bind fun p17 =>
        some ((p17.1, (v1, ())), p17.2))) : Option ((Value × Int × Unit) × Heap)).bind fun a18 =>
    some (.inl ((a18.1.1, (a18.1.2.1, ((IntKind.i64.wrap (v2 + 1)), ()))), a18.2)))
  else
    (some (.inr ((v0, (v1, ())), h3)))
noncomputable def sf_wicketref11_Queue_Drop (n : Nat) : Sf := sfOf []
noncomputable def it_wicketref11_Queue_Drop (n : Nat) : It := itOf []
def f_wicketref11_Queue_Drop (n : Nat) (u0 : Option Addr) (u1 : Int) (h : Heap) : Option ((Int × Unit) × Heap) :=
  ((loopT (fun a => f_wicketref11_Queue_Drop_L19 n u1 u0 a.1.1 a.1.2.1 a.1.2.2.1 a.2) n (((.slice none 0 0), (110, (0, ()))), h)) : Option ((Value × Int × Unit) × Heap)).bind fun a20 =>
  (u0).bind fun q21 =>
  (stB 1 a20.1.1 a20.2 (some (fa q21 0))).bind fun h22 =>
  some ((a20.1.2.1, ()), h22)
def rs_wicketref11_Queue_Drop : Rs := [(.tmp 4, (.int .i64))]
def ps_wicketref11_Queue_Drop : List Ty := [.ptr, (.int .u64)]
theorem e_wicketref11_Queue_Drop (n : Nat) (u0 : Option Addr) (u1 : Int) (h : Heap) : f_wicketref11_Queue_Drop n u0 u1 h = fB (sf_wicketref11_Queue_Drop n) (it_wicketref11_Queue_Drop n) n c2_wicketref11_Queue_Drop rs_wicketref11_Queue_Drop ps_wicketref11_Queue_Drop (u0, (u1, ())) h := by kernel_rfl
noncomputable def s_wicketref11_Queue_Drop (n : Nat) : Sf1 := mkSf ps_wicketref11_Queue_Drop rs_wicketref11_Queue_Drop fun a h => f_wicketref11_Queue_Drop n a.1 a.2.1 h

/- (*wicket/wicketref11.Queue).Copy -/
def c2_wicketref11_Queue_Copy : C2 :=
  .seq (.reg [(⟨(some 2), .move (.const (.pointer none)), none⟩, .ptr)]) <|
  .seq (.regd [(⟨0, [], false, ⟨(some 3), .buildSlice 0 1 [] [], none⟩⟩, .any),
      (⟨1, [], false, ⟨(some 4), .move (.tmp 0), none⟩⟩, .ptr),
      (⟨2, [1], false, ⟨(some 5), .nilCheck (.tmp 4), none⟩⟩, .ptr),
      (⟨3, [2, 1], false, ⟨(some 6), .fieldAddr 0 (.tmp 5), none⟩⟩, .ptr),
      (⟨4, [3, 2, 1], false, ⟨(some 7), .load false 1 (.tmp 6), none⟩⟩, .any),
      (⟨6, [], false, ⟨(some 9), .move (.tmp 0), none⟩⟩, .ptr),
      (⟨7, [6], false, ⟨(some 10), .nilCheck (.tmp 9), none⟩⟩, .ptr),
      (⟨8, [7, 6], false, ⟨(some 11), .fieldAddr 1 (.tmp 10), none⟩⟩, .ptr),
      (⟨9, [8, 7, 6], false, ⟨(some 12), .load false 1 (.tmp 11), none⟩⟩, (.int .u64)),
      (⟨5, [0, 4, 3, 2, 1], true, ⟨(some 8), .append 8 1 (.tmp 3) (.tmp 7), none⟩⟩, .any),
      (⟨10, [5, 9, 0, 4, 3, 2, 1, 8, 7, 6], false, ⟨(some 13), .build [(.slice none 0 0), (.int .u64 0)] [(0, 1, (.tmp 8)), (1, 1, (.tmp 12))], none⟩⟩, .any),
      (⟨11, [10, 5, 9, 0, 4, 3, 2, 1, 8, 7, 6], false, ⟨(some 14), .box (.tmp 13), none⟩⟩, .ptr),
      (⟨12, [11, 5, 0, 1, 2, 3, 4, 6, 7, 8, 9, 10], false, ⟨(some 2), .move (.tmp 14), none⟩⟩, .ptr)]) <|
  .ret
noncomputable def sf_wicketref11_Queue_Copy (n : Nat) : Sf := sfOf []
noncomputable def it_wicketref11_Queue_Copy (n : Nat) : It := itOf []
def f_wicketref11_Queue_Copy (n : Nat) (u0 : Option Addr) (h : Heap) : Option ((Option Addr × Unit) × Heap) :=
  (fillL [] []).bind fun cs0 =>
  bnd ((Heap.new h (.cells cs0 false 1))) fun h1 =>
  (u0).bind fun q2 =>
  (ldT .any (Heap.dropAll h1 ((Heap.next h) :: [])) (some (fa q2 0))).bind fun x3 =>
  (u0).bind fun q4 =>
  (ldT (.int .u64) (Heap.dropAll h1 ((Heap.next h) :: [])) (some (fa q4 1))).bind fun x5 =>
  (appendK (hid h1 [] ((Addr.block (fa q4 1)) :: [])) 8 1 (.slice (some ⟨Heap.next h, 0, some 0⟩) 0 0) x3).bind fun p6 =>
  bnd (Heap.putBack p6.2 h1 ([] ++ ((Addr.block (fa q4 1)) :: []))) fun h7 =>
  (fillL [(.slice none 0 0), (.int .u64 0)] [(0, 1, p6.1), (1, 1, (.int .u64 x5))]).bind fun cs8 =>
  bif (cs8 : List Value).all isCell then
    (bnd ((Heap.new h7 (.cells cs8 false 0))) fun h9 =>
    some (((some (nwA h7)), ()), h9))
  else
    (none)
def rs_wicketref11_Queue_Copy : Rs := [(.tmp 2, .ptr)]
def ps_wicketref11_Queue_Copy : List Ty := [.ptr]
theorem e_wicketref11_Queue_Copy (n : Nat) (u0 : Option Addr) (h : Heap) : f_wicketref11_Queue_Copy n u0 h = fB (sf_wicketref11_Queue_Copy n) (it_wicketref11_Queue_Copy n) n c2_wicketref11_Queue_Copy rs_wicketref11_Queue_Copy ps_wicketref11_Queue_Copy (u0, ()) h := by kernel_rfl
noncomputable def s_wicketref11_Queue_Copy (n : Nat) : Sf1 := mkSf ps_wicketref11_Queue_Copy rs_wicketref11_Queue_Copy fun a h => f_wicketref11_Queue_Copy n a.1 h

/- slices.Delete[[]uint64,uint64] -/
def c2_slices_Delete_uint64_uint64 : C2 :=
  .seq (.reg [(⟨(some 6), .move (.const (.slice none 0 0)), none⟩, .any)]) <|
  .seq (.reg [(⟨(some 8), .move (.tmp 0), none⟩, .any),
      (⟨(some 9), .move (.tmp 1), none⟩, (.int .i64)),
      (⟨(some 10), .move (.tmp 2), none⟩, (.int .i64)),
      (⟨(some 11), .move (.tmp 0), none⟩, .any),
      (⟨(some 12), .lenS (.tmp 11), none⟩, (.int .i64)),
      (⟨(some 13), .slice 1 (.tmp 8) (some (.tmp 9)) (some (.tmp 10)) (some (.tmp 12)), none⟩, .any)]) <|
  .seq (.seq (.reg [(⟨(some 14), .move (.tmp 1), none⟩, (.int .i64)),
        (⟨(some 15), .move (.tmp 2), none⟩, (.int .i64)),
        (⟨(some 16), .bin .eql (.tmp 14) (.tmp 15), none⟩, .bool)]) <|
    .cond (.tmp 16)
      (.seq (.reg [(⟨(some 17), .move (.tmp 0), none⟩, .any),
          (⟨(some 6), .move (.tmp 17), none⟩, .any)]) <|
      .ret)
      (.skip)) <|
  .seq (.reg [(⟨(some 18), .move (.tmp 0), none⟩, .any),
      (⟨(some 19), .lenS (.tmp 18), none⟩, (.int .i64)),
      (⟨(some 7), .move (.tmp 19), none⟩, (.int .i64))]) <|
  .seq (.regd [(⟨0, [], false, ⟨(some 20), .move (.tmp 0), none⟩⟩, .any),
      (⟨1, [], false, ⟨(some 21), .move (.tmp 1), none⟩⟩, (.int .i64)),
      (⟨2, [0, 1], false, ⟨(some 22), .slice 1 (.tmp 20) none (some (.tmp 21)) none, none⟩⟩, .any),
      (⟨3, [], false, ⟨(some 23), .move (.tmp 0), none⟩⟩, .any),
      (⟨4, [], false, ⟨(some 24), .move (.tmp 2), none⟩⟩, (.int .i64)),
      (⟨5, [3, 4], false, ⟨(some 25), .slice 1 (.tmp 23) (some (.tmp 24)) none none, none⟩⟩, .any),
      (⟨6, [2, 5, 0, 1, 3, 4], true, ⟨(some 26), .append 8 1 (.tmp 22) (.tmp 25), none⟩⟩, .any),
      (⟨7, [6, 0, 1, 2, 3, 4, 5], true, ⟨(some 0), .move (.tmp 26), none⟩⟩, .any)]) <|
  .seq (.reg [(⟨(some 27), .move (.tmp 0), none⟩, .any),
      (⟨(some 28), .move (.tmp 0), none⟩, .any),
      (⟨(some 29), .lenS (.tmp 28), none⟩, (.int .i64)),
      (⟨(some 30), .move (.tmp 7), none⟩, (.int .i64)),
      (⟨(some 31), .slice 1 (.tmp 27) (some (.tmp 29)) (some (.tmp 30)) none, none⟩, .any),
      (⟨none, .clear [(.int .u64 0)] (.tmp 31), none⟩, .any)]) <|
  .seq (.reg [(⟨(some 32), .move (.tmp 0), none⟩, .any),
      (⟨(some 6), .move (.tmp 32), none⟩, .any)]) <|
  .ret
noncomputable def sf_slices_Delete_uint64_uint64 (n : Nat) : Sf := sfOf []
noncomputable def it_slices_Delete_uint64_uint64 (n : Nat) : It := itOf []
def f_slices_Delete_uint64_uint64 (n : Nat) (u0 : Value) (u1 : Int) (u2 : Int) (h : Heap) : Option ((Value × Unit) × Heap) :=
  (lenB u0).bind fun n0 =>
  (sliceK h 1 (some (.int .i64 u1)) (some (.int .i64 u2)) (some (.int .i64 (n0 : Int))) u0).bind fun p1 =>
  bif (decide (u1 = u2)) then
    (bif !isTuple u0 then
      (some ((u0, ()), h))
    else
      (none))
  else
    ((lenB u0).bind fun n2 =>
    (sliceK h 1 none (some (.int .i64 u1)) none u0).bind fun p3 =>
    (sliceK h 1 (some (.int .i64 u2)) none none u0).bind fun p4 =>
    (appendK h 8 1 p3.1 p4.1).bind fun p5 =>
    (lenB p5.1).bind fun n6 =>
    (sliceK p5.2 1 (some (.int .i64 (n6 : Int))) (some (.int .i64 (n2 : Int))) none p5.1).bind fun p7 =>
    (clearK p5.2 [(.int .u64 0)] p7.1).bind fun p8 =>
    bif !isTuple p5.1 then
      (some ((p5.1, ()), p8.2))
    else
      (none))
def rs_slices_Delete_uint64_uint64 : Rs := [(.tmp 6, .any)]
def ps_slices_Delete_uint64_uint64 : List Ty := [.any, (.int .i64), (.int .i64)]
theorem e_slices_Delete_uint64_uint64 (n : Nat) (u0 : Value) (u1 : Int) (u2 : Int) (h : Heap) : f_slices_Delete_uint64_uint64 n u0 u1 u2 h = fB (sf_slices_Delete_uint64_uint64 n) (it_slices_Delete_uint64_uint64 n) n c2_slices_Delete_uint64_uint64 rs_slices_Delete_uint64_uint64 ps_slices_Delete_uint64_uint64 (u0, (u1, (u2, ()))) h := by kernel_rfl
noncomputable def s_slices_Delete_uint64_uint64 (n : Nat) : Sf1 := mkSf ps_slices_Delete_uint64_uint64 rs_slices_Delete_uint64_uint64 fun a h => f_slices_Delete_uint64_uint64 n a.1 a.2.1 a.2.2.1 h

/- (*wicket/ticket.Queue).All$1 -/
def c2_ticket_Queue_All_1 : C2 :=
  .seq (.seq (.reg [(⟨(some 5), .load false 1 (.tmp 1), none⟩, .ptr),
        (⟨(some 6), .eqv false .ptr (.tmp 5) (.const (.pointer none)), none⟩, .bool)]) <|
    .cond (.tmp 6)
      (.ret)
      (.skip)) <|
  .seq (.reg [(⟨(some 7), .load false 1 (.tmp 1), none⟩, .ptr),
      (⟨(some 8), .nilCheck (.tmp 7), none⟩, .ptr),
      (⟨(some 9), .fieldAddr 0 (.tmp 8), none⟩, .ptr),
      (⟨(some 10), .load false 1 (.tmp 9), none⟩, .any),
      (⟨(some 11), .lenS (.tmp 10), none⟩, (.int .i64)),
      (⟨(some 12), .move (.const (.int .i64 0)), none⟩, (.int .i64))]) <|
  .block 0 <|
    .loop [(12, (.int .i64))] <|
      .seq (.reg [(⟨(some 13), .bin .lss (.tmp 12) (.tmp 11), none⟩, .any)]) <|
      .seq (.cond (.tmp 13)
          (.skip)
          (.exit 0)) <|
      .seq (.block 1 <|
          .seq (.reg [(⟨(some 14), .idxSlice 1 (.tmp 10) (.tmp 12), none⟩, .ptr),
              (⟨(some 15), .load false 1 (.tmp 14), none⟩, (.int .u64)),
              (⟨(some 4), .move (.tmp 15), none⟩, (.int .u64))]) <|
          .seq (.reg [(⟨(some 16), .move (.tmp 0), none⟩, .any),
              (⟨(some 17), .move (.tmp 4), none⟩, (.int .u64)),
              (⟨(some 18), .callv (.tmp 16) [(.tmp 17)], none⟩, .bool),
              (⟨(some 19), .un .not (.tmp 18), none⟩, .bool)]) <|
          .cond (.tmp 19)
            (.ret)
            (.skip)) <|
      .reg [(⟨(some 20), .bin .add (.tmp 12) (.const (.int .i64 1)), none⟩, (.int .i64)),
        (⟨(some 12), .move (.tmp 20), none⟩, (.int .i64))]
def f_ticket_Queue_All_1_L10 {V : Type} (hp : V → Heap) (up : V → Heap → V) (y : (Int × Unit) → V → Option (Bool × V)) (n : Nat) (x3 : Value) (n4 : Nat) (v5 : Int) (w6 : V) : Option (((Int × Unit) × V) ⊕ (V)) :=
  bif (decide (v5 < (n4 : Int))) then
    ((ixB 1 x3 v5).bind fun q7 =>
    (ldT (.int .u64) (hp w6) (some q7)).bind fun x8 =>
    (y (x8, ()) w6).bind fun p9 =>
    bif (!p9.1) then
      (some (.inr p9.2))
    else
      (some (.inl (((IntKind.i64.wrap (v5 + 1)), ()), p9.2))))
  else
    (some (.inr w6))
noncomputable def sf_ticket_Queue_All_1 (n : Nat) : Sf := sfOf []
noncomputable def it_ticket_Queue_All_1 (n : Nat) : It := itOf []
def f_ticket_Queue_All_1 {V : Type} (hp : V → Heap) (up : V → Heap → V) (y : (Int × Unit) → V → Option (Bool × V)) (n : Nat) (u0 : Option Addr) (w : V) : Option V :=
  (ldT .ptr (hp w) u0).bind fun x0 =>
  bif (Option.isNone x0) then
    (some w)
  else
    ((ldT .ptr (hp w) u0).bind fun x1 =>
    (x1).bind fun q2 =>
    (ldT .any (hp w) (some (fa q2 0))).bind fun x3 =>
    (lenB x3).bind fun n4 =>
    loopT (fun a => f_ticket_Queue_All_1_L10 hp up y n x3 n4 a.1.1 a.2) n ((0, ()), w))
theorem e_ticket_Queue_All_1 {V : Type} (hp : V → Heap) (up : V → Heap → V) (y : (Int × Unit) → V → Option (Bool × V)) (n : Nat) (u0 : Option Addr) (w : V) : f_ticket_Queue_All_1 hp up y n u0 w = fI (sf_ticket_Queue_All_1 n) (it_ticket_Queue_All_1 n) n c2_ticket_Queue_All_1 [] [.ptr] [(.int .u64)] hp up y () (u0, ()) w := by kernel_rfl
noncomputable def i_ticket_Queue_All_1 (n : Nat) : It1 := mkIt [] [.ptr] [(.int .u64)] fun hp up y _ a2 v => f_ticket_Queue_All_1 hp up y n a2.1 v

/- slices.Clone[[]uint64,uint64] -/
def c2_slices_Clone_uint64_uint64 : C2 :=
  .seq (.reg [(⟨(some 2), .move (.const (.slice none 0 0)), none⟩, .any)]) <|
  .seq (.seq (.reg [(⟨(some 3), .move (.tmp 0), none⟩, .any),
        (⟨(some 4), .eqv false .slice (.tmp 3) (.const (.slice none 0 0)), none⟩, .bool)]) <|
    .cond (.tmp 4)
      (.seq (.reg [(⟨(some 2), .move (.const (.slice none 0 0)), none⟩, .any)]) <|
      .ret)
      (.skip)) <|
  .seq (.reg [(⟨(some 5), .buildSlice 0 1 [] [], none⟩, .any),
      (⟨(some 6), .move (.tmp 0), none⟩, .any),
      (⟨(some 7), .append 8 1 (.tmp 5) (.tmp 6), none⟩, .any),
      (⟨(some 2), .move (.tmp 7), none⟩, .any)]) <|
  .ret
noncomputable def sf_slices_Clone_uint64_uint64 (n : Nat) : Sf := sfOf []
noncomputable def it_slices_Clone_uint64_uint64 (n : Nat) : It := itOf []
def f_slices_Clone_uint64_uint64 (n : Nat) (u0 : Value) (h : Heap) : Option ((Value × Unit) × Heap) :=
  (eqVals h .slice u0 (.slice none 0 0)).bind fun b0 =>
  bif b0 then
    (some (((.slice none 0 0), ()), h))
  else
    ((fillL [] []).bind fun cs1 =>
    bnd ((Heap.new h (.cells cs1 false 1))) fun h2 =>
    (appendK h2 8 1 (.slice (some ⟨Heap.next h, 0, some 0⟩) 0 0) u0).bind fun p3 =>
    bif !isTuple p3.1 then
      (some ((p3.1, ()), p3.2))
    else
      (none))
def rs_slices_Clone_uint64_uint64 : Rs := [(.tmp 2, .any)]
def ps_slices_Clone_uint64_uint64 : List Ty := [.any]
theorem e_slices_Clone_uint64_uint64 (n : Nat) (u0 : Value) (h : Heap) : f_slices_Clone_uint64_uint64 n u0 h = fB (sf_slices_Clone_uint64_uint64 n) (it_slices_Clone_uint64_uint64 n) n c2_slices_Clone_uint64_uint64 rs_slices_Clone_uint64_uint64 ps_slices_Clone_uint64_uint64 (u0, ()) h := by kernel_rfl
noncomputable def s_slices_Clone_uint64_uint64 (n : Nat) : Sf1 := mkSf ps_slices_Clone_uint64_uint64 rs_slices_Clone_uint64_uint64 fun a h => f_slices_Clone_uint64_uint64 n a.1 h

/- (*wicket/ticket.Queue).First -/
def c2_ticket_Queue_First : C2 :=
  .seq (.reg [(⟨(some 2), .move (.const (.int .u64 0)), none⟩, (.int .u64)),
      (⟨(some 3), .move (.const (.bool false)), none⟩, .bool)]) <|
  .seq (.seq (.reg [(⟨(some 4), .move (.tmp 0), none⟩, .ptr),
        (⟨(some 5), .call k_ticket_Queue_Len [(.tmp 4)], none⟩, (.int .i64)),
        (⟨(some 6), .bin .eql (.tmp 5) (.const (.int .i64 0)), none⟩, .bool)]) <|
    .cond (.tmp 6)
      (.seq (.reg [(⟨(some 2), .move (.const (.int .u64 0)), none⟩, (.int .u64)),
          (⟨(some 3), .move (.const (.bool false)), none⟩, .bool)]) <|
      .ret)
      (.skip)) <|
  .seq (.reg [(⟨(some 7), .move (.tmp 0), none⟩, .ptr),
      (⟨(some 8), .nilCheck (.tmp 7), none⟩, .ptr),
      (⟨(some 9), .fieldAddr 0 (.tmp 8), none⟩, .ptr),
      (⟨(some 10), .load false 1 (.tmp 9), none⟩, .any),
      (⟨(some 11), .idxSlice 1 (.tmp 10) (.const (.int .i64 0)), none⟩, .ptr),
      (⟨(some 12), .load false 1 (.tmp 11), none⟩, (.int .u64)),
      (⟨(some 2), .move (.tmp 12), none⟩, (.int .u64)),
      (⟨(some 3), .move (.const (.bool true)), none⟩, .bool)]) <|
  .ret
noncomputable def sf_ticket_Queue_First (n : Nat) : Sf := sfOf [(k_ticket_Queue_Len, s_ticket_Queue_Len n)]
noncomputable def it_ticket_Queue_First (n : Nat) : It := itOf []
def f_ticket_Queue_First (n : Nat) (u0 : Option Addr) (h : Heap) : Option ((Int × Bool × Unit) × Heap) :=
  (f_ticket_Queue_Len n u0 h).bind fun p0 =>
  bif (decide (p0.1.1 = 0)) then
    (some ((0, (false, ())), p0.2))
  else
    ((u0).bind fun q1 =>
    (ldT .any p0.2 (some (fa q1 0))).bind fun x2 =>
    (ixB 1 x2 0).bind fun q3 =>
    (ldT (.int .u64) p0.2 (some q3)).bind fun x4 =>
    some ((x4, (true, ())), p0.2))
def rs_ticket_Queue_First : Rs := [(.tmp 2, (.int .u64)), (.tmp 3, .bool)]
def ps_ticket_Queue_First : List Ty := [.ptr]
theorem e_ticket_Queue_First (n : Nat) (u0 : Option Addr) (h : Heap) : f_ticket_Queue_First n u0 h = fB (sf_ticket_Queue_First n) (it_ticket_Queue_First n) n c2_ticket_Queue_First rs_ticket_Queue_First ps_ticket_Queue_First (u0, ()) h := by kernel_rfl
noncomputable def s_ticket_Queue_First (n : Nat) : Sf1 := mkSf ps_ticket_Queue_First rs_ticket_Queue_First fun a h => f_ticket_Queue_First n a.1 h

/- (*wicket/wicketref11.Queue).Take -/
def c2_wicketref11_Queue_Take : C2 :=
  .seq (.reg [(⟨(some 2), .move (.const (.int .u64 0)), none⟩, (.int .u64)),
      (⟨(some 3), .move (.const (.bool false)), none⟩, .bool)]) <|
  .seq (.reg [(⟨(some 7), .move (.tmp 0), none⟩, .ptr),
      (⟨(some 8), .call k_wicketref11_Queue_First [(.tmp 7)], none⟩, .any),
      (⟨(some 6), .move (.tmp 8), none⟩, .any),
      (⟨(some 9), .extract (.tmp 6) 0, none⟩, (.int .u64)),
      (⟨(some 10), .extract (.tmp 6) 1, none⟩, .bool),
      (⟨(some 4), .move (.tmp 9), none⟩, (.int .u64)),
      (⟨(some 5), .move (.tmp 10), none⟩, .bool)]) <|
  .seq (.cutn [] <|
      .seq (.reg [(⟨(some 11), .move (.tmp 5), none⟩, .bool)]) <|
      .cond (.tmp 11)
        (.reg [(⟨(some 12), .move (.tmp 0), none⟩, .ptr),
          (⟨(some 13), .move (.tmp 4), none⟩, (.int .u64)),
          (⟨(some 14), .call k_wicketref11_Queue_Drop [(.tmp 12), (.tmp 13)], none⟩, (.int .i64))])
        (.skip)) <|
  .seq (.reg [(⟨(some 15), .move (.tmp 4), none⟩, (.int .u64)),
      (⟨(some 16), .move (.tmp 5), none⟩, .bool),
      (⟨(some 2), .move (.tmp 15), none⟩, (.int .u64)),
      (⟨(some 3), .move (.tmp 16), none⟩, .bool)]) <|
  .ret
noncomputable def sf_wicketref11_Queue_Take (n : Nat) : Sf := sfOf [(k_wicketref11_Queue_First, s_wicketref11_Queue_First n), (k_wicketref11_Queue_Drop, s_wicketref11_Queue_Drop n)]
noncomputable def it_wicketref11_Queue_Take (n : Nat) : It := itOf []
def f_wicketref11_Queue_Take (n : Nat) (u0 : Option Addr) (h : Heap) : Option ((Int × Bool × Unit) × Heap) :=
  (f_wicketref11_Queue_First n u0 h).bind fun p0 =>
  ((bif p0.1.2.1 then
      ((f_wicketref11_Queue_Drop n u0 p0.1.1 p0.2).bind fun p1 =>
      some ((), p1.2))
    else
      (some ((), p0.2))) : Option ((Unit) × Heap)).bind fun a2 =>
  some ((p0.1.1, (p0.1.2.1, ())), a2.2)
def rs_wicketref11_Queue_Take : Rs := [(.tmp 2, (.int .u64)), (.tmp 3, .bool)]
def ps_wicketref11_Queue_Take : List Ty := [.ptr]
theorem e_wicketref11_Queue_Take (n : Nat) (u0 : Option Addr) (h : Heap) : f_wicketref11_Queue_Take n u0 h = fB (sf_wicketref11_Queue_Take n) (it_wicketref11_Queue_Take n) n c2_wicketref11_Queue_Take rs_wicketref11_Queue_Take ps_wicketref11_Queue_Take (u0, ()) h := by kernel_rfl
noncomputable def s_wicketref11_Queue_Take (n : Nat) : Sf1 := mkSf ps_wicketref11_Queue_Take rs_wicketref11_Queue_Take fun a h => f_wicketref11_Queue_Take n a.1 h

/- (*wicket/ticket.Queue).All -/
def c2_ticket_Queue_All : C2 :=
  .seq (.reg [(⟨(some 1), .box (.tmp 0), none⟩, .ptr),
      (⟨(some 2), .move (.const .nilFunc), none⟩, (.fn k_ticket_Queue_All_1 1))]) <|
  .seq (.reg [(⟨(some 3), .makeFunc k_ticket_Queue_All_1 [] [(.tmp 1)], none⟩, (.fn k_ticket_Queue_All_1 1)),
      (⟨(some 2), .move (.tmp 3), none⟩, (.fn k_ticket_Queue_All_1 1))]) <|
  .ret
noncomputable def sf_ticket_Queue_All (n : Nat) : Sf := sfOf []
noncomputable def it_ticket_Queue_All (n : Nat) : It := itOf []
def f_ticket_Queue_All (n : Nat) (u0 : Option Addr) (h : Heap) : Option ((Ptrs 1 × Unit) × Heap) :=
  bnd ((Heap.new h (.cells [(.pointer u0)] false 0))) fun h0 =>
  some ((((some (nwA h)), ()), ()), h0)
def rs_ticket_Queue_All : Rs := [(.tmp 2, (.fn k_ticket_Queue_All_1 1))]
def ps_ticket_Queue_All : List Ty := [.ptr]
theorem e_ticket_Queue_All (n : Nat) (u0 : Option Addr) (h : Heap) : f_ticket_Queue_All n u0 h = fB (sf_ticket_Queue_All n) (it_ticket_Queue_All n) n c2_ticket_Queue_All rs_ticket_Queue_All ps_ticket_Queue_All (u0, ()) h := by kernel_rfl
noncomputable def s_ticket_Queue_All (n : Nat) : Sf1 := mkSf ps_ticket_Queue_All rs_ticket_Queue_All fun a h => f_ticket_Queue_All n a.1 h

/- (*wicket/ticket.Queue).Copy -/
def c2_ticket_Queue_Copy : C2 :=
  .seq (.reg [(⟨(some 2), .move (.const (.pointer none)), none⟩, .ptr)]) <|
  .seq (.seq (.reg [(⟨(some 3), .move (.tmp 0), none⟩, .ptr),
        (⟨(some 4), .eqv false .ptr (.tmp 3) (.const (.pointer none)), none⟩, .bool)]) <|
    .cond (.tmp 4)
      (.seq (.reg [(⟨(some 2), .move (.const (.pointer none)), none⟩, .ptr)]) <|
      .ret)
      (.skip)) <|
  .seq (.regd [(⟨0, [], false, ⟨(some 5), .move (.tmp 0), none⟩⟩, .ptr),
      (⟨1, [0], false, ⟨(some 6), .nilCheck (.tmp 5), none⟩⟩, .ptr),
      (⟨2, [1, 0], false, ⟨(some 7), .fieldAddr 0 (.tmp 6), none⟩⟩, .ptr),
      (⟨3, [2, 1, 0], false, ⟨(some 8), .load false 1 (.tmp 7), none⟩⟩, .any),
      (⟨5, [], false, ⟨(some 10), .move (.tmp 0), none⟩⟩, .ptr),
      (⟨6, [5], false, ⟨(some 11), .nilCheck (.tmp 10), none⟩⟩, .ptr),
      (⟨7, [6, 5], false, ⟨(some 12), .fieldAddr 1 (.tmp 11), none⟩⟩, .ptr),
      (⟨8, [7, 6, 5], false, ⟨(some 13), .load false 1 (.tmp 12), none⟩⟩, (.int .u64)),
      (⟨4, [3, 2, 1, 0], true, ⟨(some 9), .call k_slices_Clone_uint64_uint64 [(.tmp 8)], none⟩⟩, .any),
      (⟨9, [4, 8, 3, 2, 1, 0, 7, 6, 5], false, ⟨(some 14), .build [(.slice none 0 0), (.int .u64 0)] [(0, 1, (.tmp 9)), (1, 1, (.tmp 13))], none⟩⟩, .any),
      (⟨10, [9, 4, 8, 3, 2, 1, 0, 7, 6, 5], false, ⟨(some 15), .box (.tmp 14), none⟩⟩, .ptr),
      (⟨11, [10, 4, 0, 1, 2, 3, 5, 6, 7, 8, 9], false, ⟨(some 2), .move (.tmp 15), none⟩⟩, .ptr)]) <|
  .ret
noncomputable def sf_ticket_Queue_Copy (n : Nat) : Sf := sfOf [(k_slices_Clone_uint64_uint64, s_slices_Clone_uint64_uint64 n)]
noncomputable def it_ticket_Queue_Copy (n : Nat) : It := itOf []
def f_ticket_Queue_Copy (n : Nat) (u0 : Option Addr) (h : Heap) : Option ((Option Addr × Unit) × Heap) :=
  bif (Option.isNone u0) then
    (some ((none, ()), h))
  else
    ((u0).bind fun q0 =>
    (ldT .any h (some (fa q0 0))).bind fun x1 =>
    (u0).bind fun q2 =>
    (ldT (.int .u64) h (some (fa q2 1))).bind fun x3 =>
    (f_slices_Clone_uint64_uint64 n x1 (hid h [] ((Addr.block (fa q2 1)) :: []))).bind fun p4 =>
    bnd (Heap.putBack p4.2 h ([] ++ ((Addr.block (fa q2 1)) :: []))) fun h5 =>
    (fillL [(.slice none 0 0), (.int .u64 0)] [(0, 1, p4.1.1), (1, 1, (.int .u64 x3))]).bind fun cs6 =>
    bif (cs6 : List Value).all isCell then
      (bnd ((Heap.new h5 (.cells cs6 false 0))) fun h7 =>
      some (((some (nwA h5)), ()), h7))
    else
      (none))
def rs_ticket_Queue_Copy : Rs := [(.tmp 2, .ptr)]
def ps_ticket_Queue_Copy : List Ty := [.ptr]
theorem e_ticket_Queue_Copy (n : Nat) (u0 : Option Addr) (h : Heap) : f_ticket_Queue_Copy n u0 h = fB (sf_ticket_Queue_Copy n) (it_ticket_Queue_Copy n) n c2_ticket_Queue_Copy rs_ticket_Queue_Copy ps_ticket_Queue_Copy (u0, ()) h := by kernel_rfl
noncomputable def s_ticket_Queue_Copy (n : Nat) : Sf1 := mkSf ps_ticket_Queue_Copy rs_ticket_Queue_Copy fun a h => f_ticket_Queue_Copy n a.1 h

/- wicket/wicketlaw11.listed -/
def c2_wicketlaw11_listed : C2 :=
  .seq (.reg [(⟨(some 3), .box (.tmp 1), none⟩, .ptr),
      (⟨(some 4), .alloc [(.slice none 0 0)], none⟩, .ptr),
      (⟨(some 5), .move (.const (.bool false)), none⟩, .bool)]) <|
  .seq (.reg [(⟨(some 8), .move (.tmp 0), none⟩, .ptr),
      (⟨(some 9), .call k_ticket_Queue_All [(.tmp 8)], none⟩, (.fn k_ticket_Queue_All_1 1)),
      (⟨(some 6), .move (.tmp 9), none⟩, (.fn k_ticket_Queue_All_1 1))]) <|
  .seq (.seq (.reg [(⟨(some 10), .move (.tmp 6), none⟩, (.fn k_ticket_Queue_All_1 1)),
        (⟨(some 11), .eqv false .func (.tmp 10) (.const .nilFunc), none⟩, .bool)]) <|
    .cond (.tmp 11)
      (.seq (.reg [(⟨none, .store 1 (.tmp 4) (.const (.slice none 0 0)), none⟩, .any),
          (⟨(some 5), .move (.const (.bool false)), none⟩, .bool)]) <|
      .ret)
      (.skip)) <|
  .seq (.cutn [] <|
      .seq (.reg [(⟨(some 12), .move (.tmp 6), none⟩, (.fn k_ticket_Queue_All_1 1))]) <|
      .block 0 <|
        .range (.tmp 12) [13] [.exit 0]
          (.reg [(⟨(some 7), .move (.tmp 13), none⟩, (.int .u64))])
          (.block 1 <|
            .seq (.seq (.cutn [(21, .bool)] <|
                  .reg [(⟨(some 14), .load false 1 (.tmp 3), none⟩, (.int .i64)),
                    (⟨(some 15), .bin .geq (.tmp 14) (.const (.int .i64 0)), none⟩, .bool),
                    (⟨(some 16), .move (.tmp 15), none⟩, .bool),
                    (⟨(some 17), .load false 1 (.tmp 4), some (16, true)⟩, .any),
                    (⟨(some 18), .lenS (.tmp 17), some (16, true)⟩, (.int .i64)),
                    (⟨(some 19), .load false 1 (.tmp 3), some (16, true)⟩, (.int .i64)),
                    (⟨(some 20), .bin .geq (.tmp 18) (.tmp 19), some (16, true)⟩, .bool),
                    (⟨(some 21), .pick (.tmp 16) (.tmp 20) (.const (.bool false)), none⟩, .bool)]) <|
              .cond (.tmp 21)
                (.exit 0)
                (.skip)) <|
            .reg [(⟨(some 22), .load false 1 (.tmp 4), none⟩, .any),
              (⟨(some 23), .move (.tmp 7), none⟩, (.int .u64)),
              (⟨(some 24), .buildSlice 1 1 [(.int .u64 0)] [(0, 1, (.tmp 23))], none⟩, .any),
              (⟨(some 25), .append 8 1 (.tmp 22) (.tmp 24), none⟩, .any),
              (⟨none, .store 1 (.tmp 4) (.tmp 25), none⟩, .any)])) <|
  .seq (.reg [(⟨(some 26), .load false 1 (.tmp 4), none⟩, .any),
      (⟨none, .store 1 (.tmp 4) (.tmp 26), none⟩, .any),
      (⟨(some 5), .move (.const (.bool true)), none⟩, .bool)]) <|
  .ret
def f_wicketlaw11_listed_B18 (n : Nat) (h : Heap) (h0 : Heap) (y6 : Int) (v7 : (Heap × Nat)) : Option (Bool × (Heap × Nat)) :=
  bif Nat.beq v7.2 0 then
    ((((ldT (.int .i64) v7.1 (some (nwA h))).bind fun x8 =>
      bif (decide (0 ≤ x8)) then
        ((ldT .any v7.1 (some (nwA h0))).bind fun x9 =>
        (lenB x9).bind fun n10 =>
        (ldT (.int .i64) v7.1 (some (nwA h))).bind fun x11 =>
        some (((decide (x11 ≤ (n10 : Int))), ()), v7.1))
      else
        (some ((false, ()), v7.1))) : Option ((Bool × Unit) × Heap)).bind fun a12 =>
    bif a12.1.1 then
      (some (false, (a12.2, 1)))
    else
      ((ldT .any a12.2 (some (nwA h0))).bind fun x13 =>
      (fillL [(.int .u64 0)] [(0, 1, (.int .u64 y6))]).bind fun cs14 =>
      bnd ((Heap.new a12.2 (.cells cs14 false 1))) fun h15 =>
      (appendK h15 8 1 x13 (.slice (some ⟨Heap.next a12.2, 0, some 0⟩) 1 1)).bind fun p16 =>
      (stB 1 p16.1 p16.2 (some (nwA h0))).bind fun h17 =>
      some (true, (h17, 0))))
  else none
noncomputable def sf_wicketlaw11_listed (n : Nat) : Sf := sfOf [(k_ticket_Queue_All, s_ticket_Queue_All n)]
noncomputable def it_wicketlaw11_listed (n : Nat) : It := itOf [(k_ticket_Queue_All_1, i_ticket_Queue_All_1 n)]
def f_wicketlaw11_listed (n : Nat) (u0 : Option Addr) (u1 : Int) (h : Heap) : Option ((Value × Bool × Unit) × Heap) :=
  bnd ((Heap.new h (.cells [(.int .i64 u1)] false 0))) fun h0 =>
  bnd ((Heap.new h0 (.cells [(.slice none 0 0)] false 0))) fun h1 =>
  (f_ticket_Queue_All n u0 h1).bind fun p2 =>
  (eqVals p2.2 .func (Ty.val (.fn k_ticket_Queue_All_1 1) p2.1.1) .nilFunc).bind fun b3 =>
  bif b3 then
    ((stB 1 (.slice none 0 0) p2.2 (some (nwA h0))).bind fun h4 =>
    (ldT .any h4 (some (nwA h0))).bind fun x5 =>
    bif !isTuple x5 then
      (some ((x5, (false, ())), h4))
    else
      (none))
  else
    ((((f_ticket_Queue_All_1 (V := (Heap × Nat)) (fun v => v.1) (fun v h => (h, v.2)) (fun a v => f_wicketlaw11_listed_B18 n h h0 a.1 v) n p2.1.1.1 ((Heap.hole (Heap.hole p2.2)), 0)).bind fun v19 =>
      bif Nat.beq v19.2 0 then
        (some ((), v19.1))
      else
        (bif Nat.beq v19.2 1 then
          (some ((), v19.1))
        else
          (none))) : Option ((Unit) × Heap)).bind fun a20 =>
    (ldT .any a20.2 (some (nwA h0))).bind fun x21 =>
    (stB 1 x21 a20.2 (some (nwA h0))).bind fun h22 =>
    (ldT .any h22 (some (nwA h0))).bind fun x23 =>
    bif !isTuple x23 then
      (some ((x23, (true, ())), h22))
    else
      (none))
def rs_wicketlaw11_listed : Rs := [(.cell false 1 4, .any), (.tmp 5, .bool)]
def ps_wicketlaw11_listed : List Ty := [.ptr, (.int .i64)]
theorem e_wicketlaw11_listed (n : Nat) (u0 : Option Addr) (u1 : Int) (h : Heap) : f_wicketlaw11_listed n u0 u1 h = fB (sf_wicketlaw11_listed n) (it_wicketlaw11_listed n) n c2_wicketlaw11_listed rs_wicketlaw11_listed ps_wicketlaw11_listed (u0, (u1, ())) h := by kernel_rfl
noncomputable def s_wicketlaw11_listed (n : Nat) : Sf1 := mkSf ps_wicketlaw11_listed rs_wicketlaw11_listed fun a h => f_wicketlaw11_listed n a.1 a.2.1 h

/- (*wicket/ticket.Queue).Take -/
def c2_ticket_Queue_Take : C2 :=
  .seq (.reg [(⟨(some 2), .move (.const (.int .u64 0)), none⟩, (.int .u64)),
      (⟨(some 3), .move (.const (.bool false)), none⟩, .bool)]) <|
  .seq (.reg [(⟨(some 7), .move (.tmp 0), none⟩, .ptr),
      (⟨(some 8), .call k_ticket_Queue_First [(.tmp 7)], none⟩, .any),
      (⟨(some 6), .move (.tmp 8), none⟩, .any),
      (⟨(some 9), .extract (.tmp 6) 0, none⟩, (.int .u64)),
      (⟨(some 10), .extract (.tmp 6) 1, none⟩, .bool),
      (⟨(some 4), .move (.tmp 9), none⟩, (.int .u64)),
      (⟨(some 5), .move (.tmp 10), none⟩, .bool)]) <|
  .seq (.cutn [] <|
      .seq (.reg [(⟨(some 11), .move (.tmp 5), none⟩, .bool)]) <|
      .cond (.tmp 11)
        (.reg [(⟨(some 12), .move (.tmp 0), none⟩, .ptr),
          (⟨(some 13), .move (.tmp 0), none⟩, .ptr),
          (⟨(some 14), .nilCheck (.tmp 13), none⟩, .ptr),
          (⟨(some 15), .fieldAddr 0 (.tmp 14), none⟩, .ptr),
          (⟨(some 16), .load false 1 (.tmp 15), none⟩, .any),
          (⟨(some 17), .call k_slices_Delete_uint64_uint64 [(.tmp 16), (.const (.int .i64 0)), (.const (.int .i64 1))], none⟩, .any),
          (⟨(some 18), .nilCheck (.tmp 12), none⟩, .ptr),
          (⟨(some 19), .fieldAddr 0 (.tmp 18), none⟩, .ptr),
          (⟨none, .store 1 (.tmp 19) (.tmp 17), none⟩, .any)])
        (.skip)) <|
  .seq (.reg [(⟨(some 20), .move (.tmp 4), none⟩, (.int .u64)),
      (⟨(some 21), .move (.tmp 5), none⟩, .bool),
      (⟨(some 2), .move (.tmp 20), none⟩, (.int .u64)),
      (⟨(some 3), .move (.tmp 21), none⟩, .bool)]) <|
  .ret
noncomputable def sf_ticket_Queue_Take (n : Nat) : Sf := sfOf [(k_ticket_Queue_First, s_ticket_Queue_First n), (k_slices_Delete_uint64_uint64, s_slices_Delete_uint64_uint64 n)]
noncomputable def it_ticket_Queue_Take (n : Nat) : It := itOf []
def f_ticket_Queue_Take (n : Nat) (u0 : Option Addr) (h : Heap) : Option ((Int × Bool × Unit) × Heap) :=
  (f_ticket_Queue_First n u0 h).bind fun p0 =>
  ((bif p0.1.2.1 then
      ((u0).bind fun q1 =>
      (ldT .any p0.2 (some (fa q1 0))).bind fun x2 =>
      (f_slices_Delete_uint64_uint64 n x2 0 1 p0.2).bind fun p3 =>
      (u0).bind fun q4 =>
      (stB 1 p3.1.1 p3.2 (some (fa q4 0))).bind fun h5 =>
      some ((), h5))
    else
      (some ((), p0.2))) : Option ((Unit) × Heap)).bind fun a6 =>
  some ((p0.1.1, (p0.1.2.1, ())), a6.2)
def rs_ticket_Queue_Take : Rs := [(.tmp 2, (.int .u64)), (.tmp 3, .bool)]
def ps_ticket_Queue_Take : List Ty := [.ptr]
theorem e_ticket_Queue_Take (n : Nat) (u0 : Option Addr) (h : Heap) : f_ticket_Queue_Take n u0 h = fB (sf_ticket_Queue_Take n) (it_ticket_Queue_Take n) n c2_ticket_Queue_Take rs_ticket_Queue_Take ps_ticket_Queue_Take (u0, ()) h := by kernel_rfl
noncomputable def s_ticket_Queue_Take (n : Nat) : Sf1 := mkSf ps_ticket_Queue_Take rs_ticket_Queue_Take fun a h => f_ticket_Queue_Take n a.1 h

/- (*wicket/ticket.Queue).Place -/
def c2_ticket_Queue_Place : C2 :=
  .seq (.reg [(⟨(some 3), .box (.tmp 1), none⟩, .ptr),
      (⟨(some 4), .alloc [(.int .i64 0)], none⟩, .ptr)]) <|
  .seq (.reg [(⟨(some 5), .alloc [(.int .i64 0)], none⟩, .ptr),
      (⟨none, .store 1 (.tmp 5) (.const (.int .i64 0)), none⟩, .any)]) <|
  .seq (.seq (.reg [(⟨(some 7), .move (.tmp 0), none⟩, .ptr),
        (⟨(some 8), .call k_ticket_Queue_All [(.tmp 7)], none⟩, (.fn k_ticket_Queue_All_1 1))]) <|
    .block 0 <|
      .range (.tmp 8) [9] [.ret]
        (.reg [(⟨(some 6), .move (.tmp 9), none⟩, (.int .u64))])
        (.block 1 <|
          .seq (.seq (.reg [(⟨(some 10), .move (.tmp 6), none⟩, (.int .u64)),
                (⟨(some 11), .load false 1 (.tmp 3), none⟩, (.int .u64)),
                (⟨(some 12), .bin .eql (.tmp 10) (.tmp 11), none⟩, .bool)]) <|
            .cond (.tmp 12)
              (.seq (.reg [(⟨(some 13), .load false 1 (.tmp 5), none⟩, (.int .i64)),
                  (⟨none, .store 1 (.tmp 4) (.tmp 13), none⟩, .any)]) <|
              .ret)
              (.skip)) <|
          .reg [(⟨(some 14), .load false 1 (.tmp 5), none⟩, (.int .i64)),
            (⟨(some 15), .bin .add (.tmp 14) (.const (.int .i64 1)), none⟩, (.int .i64)),
            (⟨none, .store 1 (.tmp 5) (.tmp 15), none⟩, .any)])) <|
  .seq (.reg [(⟨none, .store 1 (.tmp 4) (.const (.int .i64 (-1))), none⟩, .any)]) <|
  .ret
def f_ticket_Queue_Place_B12 (n : Nat) (h : Heap) (h0 : Heap) (h1 : Heap) (y5 : Int) (v6 : (Heap × Nat)) : Option (Bool × (Heap × Nat)) :=
  bif Nat.beq v6.2 0 then
    ((ldT (.int .u64) v6.1 (some (nwA h))).bind fun x7 =>
    bif (decide (y5 = x7)) then
      ((ldT (.int .i64) v6.1 (some (nwA h1))).bind fun x8 =>
      (stB 1 (.int .i64 x8) v6.1 (some (nwA h0))).bind fun h9 =>
      some (false, (h9, 1)))
    else
      ((ldT (.int .i64) v6.1 (some (nwA h1))).bind fun x10 =>
      (stB 1 (.int .i64 (IntKind.i64.wrap (x10 + 1))) v6.1 (some (nwA h1))).bind fun h11 =>
      some (true, (h11, 0))))
  else none
noncomputable def sf_ticket_Queue_Place (n : Nat) : Sf := sfOf [(k_ticket_Queue_All, s_ticket_Queue_All n)]
noncomputable def it_ticket_Queue_Place (n : Nat) : It := itOf [(k_ticket_Queue_All_1, i_ticket_Queue_All_1 n)]
def f_ticket_Queue_Place (n : Nat) (u0 : Option Addr) (u1 : Int) (h : Heap) : Option ((Int × Unit) × Heap) :=
  bnd ((Heap.new h (.cells [(.int .u64 u1)] false 0))) fun h0 =>
  bnd ((Heap.new h0 (.cells [(.int .i64 0)] false 0))) fun h1 =>
  bnd ((Heap.new h1 (.cells [(.int .i64 0)] false 0))) fun h2 =>
  (stB 1 (.int .i64 0) h2 (some (nwA h1))).bind fun h3 =>
  (f_ticket_Queue_All n u0 h3).bind fun p4 =>
  (f_ticket_Queue_All_1 (V := (Heap × Nat)) (fun v => v.1) (fun v h => (h, v.2)) (fun a v => f_ticket_Queue_Place_B12 n h h0 h1 a.1 v) n p4.1.1.1 ((Heap.hole (Heap.hole p4.2)), 0)).bind fun v13 =>
  bif Nat.beq v13.2 0 then
    ((stB 1 (.int .i64 (-1)) v13.1 (some (nwA h0))).bind fun h14 =>
    (ldT (.int .i64) h14 (some (nwA h0))).bind fun x15 =>
    some ((x15, ()), h14))
  else
    (bif Nat.beq v13.2 1 then
      ((ldT (.int .i64) v13.1 (some (nwA h0))).bind fun x16 =>
      some ((x16, ()), v13.1))
    else
      (none))
def rs_ticket_Queue_Place : Rs := [(.cell false 1 4, (.int .i64))]
def ps_ticket_Queue_Place : List Ty := [.ptr, (.int .u64)]
theorem e_ticket_Queue_Place (n : Nat) (u0 : Option Addr) (u1 : Int) (h : Heap) : f_ticket_Queue_Place n u0 u1 h = fB (sf_ticket_Queue_Place n) (it_ticket_Queue_Place n) n c2_ticket_Queue_Place rs_ticket_Queue_Place ps_ticket_Queue_Place (u0, (u1, ())) h := by kernel_rfl
noncomputable def s_ticket_Queue_Place (n : Nat) : Sf1 := mkSf ps_ticket_Queue_Place rs_ticket_Queue_Place fun a h => f_ticket_Queue_Place n a.1 a.2.1 h

/- (*wicket/ticket.Queue).Drop -/
def c2_ticket_Queue_Drop : C2 :=
  .seq (.reg [(⟨(some 4), .move (.const (.int .i64 0)), none⟩, (.int .i64))]) <|
  .seq (.seq (.reg [(⟨(some 6), .move (.tmp 0), none⟩, .ptr),
        (⟨(some 7), .eqv false .ptr (.tmp 6) (.const (.pointer none)), none⟩, .bool)]) <|
    .cond (.tmp 7)
      (.seq (.reg [(⟨(some 4), .move (.const (.int .i64 1)), none⟩, (.int .i64))]) <|
      .ret)
      (.skip)) <|
  .seq (.reg [(⟨(some 8), .move (.tmp 0), none⟩, .ptr),
      (⟨(some 9), .move (.tmp 1), none⟩, (.int .u64)),
      (⟨(some 10), .call k_ticket_Queue_Place [(.tmp 8), (.tmp 9)], none⟩, (.int .i64)),
      (⟨(some 5), .move (.tmp 10), none⟩, (.int .i64))]) <|
  .seq (.seq (.reg [(⟨(some 11), .move (.tmp 5), none⟩, (.int .i64)),
        (⟨(some 12), .bin .lss (.tmp 11) (.const (.int .i64 0)), none⟩, .bool)]) <|
    .cond (.tmp 12)
      (.seq (.reg [(⟨(some 4), .move (.const (.int .i64 110)), none⟩, (.int .i64))]) <|
      .ret)
      (.skip)) <|
  .seq (.reg [(⟨(some 13), .move (.tmp 0), none⟩, .ptr),
      (⟨(some 14), .move (.tmp 0), none⟩, .ptr),
      (⟨(some 15), .nilCheck (.tmp 14), none⟩, .ptr),
      (⟨(some 16), .fieldAddr 0 (.tmp 15), none⟩, .ptr),
      (⟨(some 17), .load false 1 (.tmp 16), none⟩, .any),
      (⟨(some 18), .move (.tmp 5), none⟩, (.int .i64)),
      (⟨(some 19), .move (.tmp 5), none⟩, (.int .i64)),
      (⟨(some 20), .bin .add (.tmp 19) (.const (.int .i64 1)), none⟩, (.int .i64)),
      (⟨(some 21), .call k_slices_Delete_uint64_uint64 [(.tmp 17), (.tmp 18), (.tmp 20)], none⟩, .any),
      (⟨(some 22), .nilCheck (.tmp 13), none⟩, .ptr),
      (⟨(some 23), .fieldAddr 0 (.tmp 22), none⟩, .ptr),
      (⟨none, .store 1 (.tmp 23) (.tmp 21), none⟩, .any)]) <|
  .seq (.reg [(⟨(some 4), .move (.const (.int .i64 0)), none⟩, (.int .i64))]) <|
  .ret
noncomputable def sf_ticket_Queue_Drop (n : Nat) : Sf := sfOf [(k_ticket_Queue_Place, s_ticket_Queue_Place n), (k_slices_Delete_uint64_uint64, s_slices_Delete_uint64_uint64 n)]
noncomputable def it_ticket_Queue_Drop (n : Nat) : It := itOf []
def f_ticket_Queue_Drop (n : Nat) (u0 : Option Addr) (u1 : Int) (h : Heap) : Option ((Int × Unit) × Heap) :=
  bif (Option.isNone u0) then
    (some ((1, ()), h))
  else
    ((f_ticket_Queue_Place n u0 u1 h).bind fun p0 =>
    bif (decide (p0.1.1 < 0)) then
      (some ((110, ()), p0.2))
    else
      ((u0).bind fun q1 =>
      (ldT .any p0.2 (some (fa q1 0))).bind fun x2 =>
      (f_slices_Delete_uint64_uint64 n x2 p0.1.1 (IntKind.i64.wrap (p0.1.1 + 1)) p0.2).bind fun p3 =>
      (u0).bind fun q4 =>
      (stB 1 p3.1.1 p3.2 (some (fa q4 0))).bind fun h5 =>
      some ((0, ()), h5)))
def rs_ticket_Queue_Drop : Rs := [(.tmp 4, (.int .i64))]
def ps_ticket_Queue_Drop : List Ty := [.ptr, (.int .u64)]
theorem e_ticket_Queue_Drop (n : Nat) (u0 : Option Addr) (u1 : Int) (h : Heap) : f_ticket_Queue_Drop n u0 u1 h = fB (sf_ticket_Queue_Drop n) (it_ticket_Queue_Drop n) n c2_ticket_Queue_Drop rs_ticket_Queue_Drop ps_ticket_Queue_Drop (u0, (u1, ())) h := by kernel_rfl
noncomputable def s_ticket_Queue_Drop (n : Nat) : Sf1 := mkSf ps_ticket_Queue_Drop rs_ticket_Queue_Drop fun a h => f_ticket_Queue_Drop n a.1 a.2.1 h

/- (*wicket/wicketlaw11.pair).plays -/
def c2_wicketlaw11_pair_plays : C2 :=
  .seq (.reg [(⟨(some 3), .box (.tmp 1), none⟩, .ptr),
      (⟨(some 4), .move (.const (.bool false)), none⟩, .bool)]) <|
  .seq (.reg [(⟨(some 25), .fieldAddr 1 (.tmp 3), none⟩, .ptr),
      (⟨(some 26), .load false 1 (.tmp 25), none⟩, (.int .i64)),
      (⟨(some 27), .bin .rem (.tmp 26) (.const (.int .i64 2)), none⟩, (.int .i64)),
      (⟨(some 28), .bin .add (.tmp 27) (.const (.int .i64 2)), none⟩, (.int .i64)),
      (⟨(some 29), .bin .rem (.tmp 28) (.const (.int .i64 2)), none⟩, (.int .i64)),
      (⟨(some 5), .move (.tmp 29), none⟩, (.int .i64))]) <|
  .seq (.regd [(⟨0, [], false, ⟨(some 30), .move (.tmp 0), none⟩⟩, .ptr),
      (⟨1, [], false, ⟨(some 31), .move (.tmp 5), none⟩⟩, (.int .i64)),
      (⟨2, [0], false, ⟨(some 32), .nilCheck (.tmp 30), none⟩⟩, .ptr),
      (⟨3, [2, 0], false, ⟨(some 33), .fieldAddr 0 (.tmp 32), none⟩⟩, .ptr),
      (⟨4, [3, 1, 2, 0], false, ⟨(some 34), .idxArr 2 1 (.tmp 33) (.tmp 31), none⟩⟩, .ptr),
      (⟨5, [4, 3, 1, 2, 0], false, ⟨(some 35), .load false 1 (.tmp 34), none⟩⟩, .ptr),
      (⟨6, [], false, ⟨(some 36), .move (.tmp 0), none⟩⟩, .ptr),
      (⟨7, [], false, ⟨(some 37), .move (.tmp 5), none⟩⟩, (.int .i64)),
      (⟨8, [6], false, ⟨(some 38), .nilCheck (.tmp 36), none⟩⟩, .ptr),
      (⟨9, [8, 6], false, ⟨(some 39), .fieldAddr 2 (.tmp 38), none⟩⟩, .ptr),
      (⟨10, [9, 7, 8, 6], false, ⟨(some 40), .idxArr 2 1 (.tmp 39) (.tmp 37), none⟩⟩, .ptr),
      (⟨11, [10, 9, 7, 8, 6], false, ⟨(some 41), .load false 1 (.tmp 40), none⟩⟩, .ptr),
      (⟨12, [5, 0, 1, 2, 3, 4], false, ⟨(some 6), .move (.tmp 35), none⟩⟩, .ptr),
      (⟨13, [11, 12, 0, 1, 2, 3, 4, 5, 6, 7, 8, 9, 10], false, ⟨(some 7), .move (.tmp 41), none⟩⟩, .ptr)]) <|
  .seq (.seq (.reg [(⟨(some 42), .fieldAddr 0 (.tmp 3), none⟩, .ptr),
        (⟨(some 43), .load false 1 (.tmp 42), none⟩, (.int .i64))]) <|
    .block 0 <|
      .seq (.reg [(⟨(some 45), .bin .eql (.tmp 43) (.const (.int .i64 1)), none⟩, .bool),
          (⟨(some 44), .move (.tmp 45), none⟩, .bool)]) <|
      .cond (.tmp 44)
        (.seq (.regd [(⟨0, [], false, ⟨(some 46), .move (.tmp 6), none⟩⟩, .ptr),
            (⟨1, [], false, ⟨(some 47), .fieldAddr 2 (.tmp 3), none⟩⟩, .ptr),
            (⟨2, [1], false, ⟨(some 48), .load false 1 (.tmp 47), none⟩⟩, (.int .u64)),
            (⟨4, [], false, ⟨(some 50), .move (.tmp 7), none⟩⟩, .ptr),
            (⟨5, [], false, ⟨(some 51), .fieldAddr 2 (.tmp 3), none⟩⟩, .ptr),
            (⟨6, [5], false, ⟨(some 52), .load false 1 (.tmp 51), none⟩⟩, (.int .u64)),
            (⟨3, [0, 2, 1], true, ⟨(some 49), .call k_ticket_Queue_Put [(.tmp 46), (.tmp 48)], none⟩⟩, (.int .i64)),
            (⟨7, [4, 6, 3, 5, 0, 2, 1], true, ⟨(some 53), .call k_wicketref11_Queue_Put [(.tmp 50), (.tmp 52)], none⟩⟩, (.int .i64)),
            (⟨8, [3, 7, 0, 2, 1, 4, 6, 5], false, ⟨(some 54), .bin .eql (.tmp 49) (.tmp 53), none⟩⟩, .bool),
            (⟨9, [8, 7, 0, 1, 2, 3, 4, 5, 6], false, ⟨(some 4), .move (.tmp 54), none⟩⟩, .bool)]) <|
        .ret)
        (.seq (.reg [(⟨(some 56), .bin .eql (.tmp 43) (.const (.int .i64 2)), none⟩, .bool),
            (⟨(some 55), .move (.tmp 56), none⟩, .bool)]) <|
        .cond (.tmp 55)
          (.seq (.reg [(⟨(some 58), .move (.tmp 6), none⟩, .ptr),
              (⟨(some 59), .call k_ticket_Queue_First [(.tmp 58)], none⟩, .any),
              (⟨(some 57), .move (.tmp 59), none⟩, .any),
              (⟨(some 60), .extract (.tmp 57) 0, none⟩, (.int .u64)),
              (⟨(some 61), .extract (.tmp 57) 1, none⟩, .bool),
              (⟨(some 8), .move (.tmp 60), none⟩, (.int .u64)),
              (⟨(some 9), .move (.tmp 61), none⟩, .bool)]) <|
          .seq (.reg [(⟨(some 63), .move (.tmp 7), none⟩, .ptr),
              (⟨(some 64), .call k_wicketref11_Queue_First [(.tmp 63)], none⟩, .any),
              (⟨(some 62), .move (.tmp 64), none⟩, .any),
              (⟨(some 65), .extract (.tmp 62) 0, none⟩, (.int .u64)),
              (⟨(some 66), .extract (.tmp 62) 1, none⟩, .bool),
              (⟨(some 10), .move (.tmp 65), none⟩, (.int .u64)),
              (⟨(some 11), .move (.tmp 66), none⟩, .bool)]) <|
          .seq (.regd [(⟨0, [], false, ⟨(some 67), .move (.tmp 8), none⟩⟩, (.int .u64)),
              (⟨1, [], false, ⟨(some 68), .move (.tmp 10), none⟩⟩, (.int .u64)),
              (⟨2, [0, 1], false, ⟨(some 69), .bin .eql (.tmp 67) (.tmp 68), none⟩⟩, .bool),
              (⟨3, [2, 0, 1], false, ⟨(some 70), .move (.tmp 69), none⟩⟩, .bool),
              (⟨4, [3, 2, 0, 1], false, ⟨(some 71), .move (.tmp 9), some (70, true)⟩⟩, .bool),
              (⟨5, [3, 2, 0, 1], false, ⟨(some 72), .move (.tmp 11), some (70, true)⟩⟩, .bool),
              (⟨6, [4, 5, 3, 2, 0, 1], false, ⟨(some 73), .eqv false .bool (.tmp 71) (.tmp 72), some (70, true)⟩⟩, .bool),
              (⟨7, [3, 6, 2, 0, 1, 4, 5], false, ⟨(some 74), .pick (.tmp 70) (.tmp 73) (.const (.bool false)), none⟩⟩, .bool),
              (⟨8, [7, 3, 6, 2, 0, 1, 4, 5], false, ⟨(some 75), .move (.tmp 74), none⟩⟩, .bool),
              (⟨9, [8, 7, 3, 6, 2, 0, 1, 4, 5], false, ⟨(some 76), .move (.tmp 6), some (75, true)⟩⟩, .ptr),
              (⟨11, [8, 7, 3, 6, 2, 0, 1, 4, 5], false, ⟨(some 78), .move (.tmp 7), some (75, true)⟩⟩, .ptr),
              (⟨12, [11, 8, 7, 3, 6, 2, 0, 1, 4, 5], false, ⟨(some 79), .nilCheck (.tmp 78), some (75, true)⟩⟩, .ptr),
              (⟨13, [12, 8, 11, 7, 3, 6, 2, 0, 1, 4, 5], false, ⟨(some 80), .fieldAddr 0 (.tmp 79), some (75, true)⟩⟩, .ptr),
              (⟨14, [13, 8, 12, 11, 7, 3, 6, 2, 0, 1, 4, 5], false, ⟨(some 81), .load false 1 (.tmp 80), some (75, true)⟩⟩, .any),
              (⟨15, [14, 8, 13, 12, 11, 7, 3, 6, 2, 0, 1, 4, 5], false, ⟨(some 82), .lenS (.tmp 81), some (75, true)⟩⟩, (.int .i64)),
              (⟨10, [9, 8, 7, 3, 6, 2, 0, 1, 4, 5], true, ⟨(some 77), .call k_ticket_Queue_Len [(.tmp 76)], some (75, true)⟩⟩, (.int .i64)),
              (⟨16, [10, 15, 8, 9, 7, 3, 6, 2, 0, 1, 4, 5, 14, 13, 12, 11], false, ⟨(some 83), .bin .eql (.tmp 77) (.tmp 82), some (75, true)⟩⟩, .bool),
              (⟨17, [8, 16, 7, 3, 6, 2, 0, 1, 4, 5, 10, 15, 9, 14, 13, 12, 11], false, ⟨(some 84), .pick (.tmp 75) (.tmp 83) (.const (.bool false)), none⟩⟩, .bool),
              (⟨18, [17, 10, 8, 16, 7, 3, 6, 2, 0, 1, 4, 5, 15, 9, 14, 13, 12, 11], false, ⟨(some 85), .move (.tmp 84), none⟩⟩, .bool),
              (⟨19, [18, 17, 10, 8, 16, 7, 3, 6, 2, 0, 1, 4, 5, 15, 9, 14, 13, 12, 11], false, ⟨(some 86), .move (.tmp 6), some (85, true)⟩⟩, .ptr),
              (⟨20, [18, 17, 10, 8, 16, 7, 3, 6, 2, 0, 1, 4, 5, 15, 9, 14, 13, 12, 11], false, ⟨(some 87), .fieldAddr 2 (.tmp 3), some (85, true)⟩⟩, .ptr),
              (⟨21, [20, 18, 17, 10, 8, 16, 7, 3, 6, 2, 0, 1, 4, 5, 15, 9, 14, 13, 12, 11], false, ⟨(some 88), .load false 1 (.tmp 87), some (85, true)⟩⟩, (.int .u64)),
              (⟨23, [18, 17, 10, 8, 16, 7, 3, 6, 2, 0, 1, 4, 5, 15, 9, 14, 13, 12, 11], false, ⟨(some 90), .move (.tmp 7), some (85, true)⟩⟩, .ptr),
              (⟨24, [18, 17, 10, 8, 16, 7, 3, 6, 2, 0, 1, 4, 5, 15, 9, 14, 13, 12, 11], false, ⟨(some 91), .fieldAddr 2 (.tmp 3), some (85, true)⟩⟩, .ptr),
              (⟨25, [24, 18, 17, 10, 8, 16, 7, 3, 6, 2, 0, 1, 4, 5, 15, 9, 14, 13, 12, 11], false, ⟨(some 92), .load false 1 (.tmp 91), some (85, true)⟩⟩, (.int .u64)),
              (⟨22, [19, 21, 18, 17, 10, 8, 16, 7, 3, 6, 2, 0, 1, 4, 5, 15, 9, 14, 13, 12, 11, 20], true, ⟨(some 89), .call k_ticket_Queue_Place [(.tmp 86), (.tmp 88)], some (85, true)⟩⟩, (.int .i64)),
              (⟨26, [23, 25, 22, 18, 17, 10, 8, 16, 7, 3, 6, 2, 0, 1, 4, 5, 15, 9, 14, 13, 12, 11, 24, 19, 21, 20], true, ⟨(some 93), .call k_wicketref11_Queue_Place [(.tmp 90), (.tmp 92)], some (85, true)⟩⟩, (.int .i64)),
              (⟨27, [22, 26, 18, 19, 21, 17, 10, 8, 16, 7, 3, 6, 2, 0, 1, 4, 5, 15, 9, 14, 13, 12, 11, 20, 23, 25, 24], false, ⟨(some 94), .bin .eql (.tmp 89) (.tmp 93), some (85, true)⟩⟩, .bool),
              (⟨28, [18, 27, 17, 10, 8, 16, 7, 3, 6, 2, 0, 1, 4, 5, 15, 9, 14, 13, 12, 11, 22, 26, 19, 21, 20, 23, 25, 24], false, ⟨(some 95), .pick (.tmp 85) (.tmp 94) (.const (.bool false)), none⟩⟩, .bool),
              (⟨29, [28, 26, 0, 1, 2, 3, 4, 5, 6, 7, 8, 9, 10, 11, 12, 13, 14, 15, 16, 17, 18, 19, 20, 21, 22, 23, 24, 25, 27], false, ⟨(some 4), .move (.tmp 95), none⟩⟩, .bool)]) <|
          .ret)
          (.seq (.reg [(⟨(some 97), .bin .eql (.tmp 43) (.const (.int .i64 3)), none⟩, .bool),
              (⟨(some 96), .move (.tmp 97), none⟩, .bool)]) <|
          .cond (.tmp 96)
            (.seq (.reg [(⟨(some 99), .move (.tmp 6), none⟩, .ptr),
                (⟨(some 100), .call k_ticket_Queue_Take [(.tmp 99)], none⟩, .any),
                (⟨(some 98), .move (.tmp 100), none⟩, .any),
                (⟨(some 101), .extract (.tmp 98) 0, none⟩, (.int .u64)),
                (⟨(some 102), .extract (.tmp 98) 1, none⟩, .bool),
                (⟨(some 12), .move (.tmp 101), none⟩, (.int .u64)),
                (⟨(some 13), .move (.tmp 102), none⟩, .bool)]) <|
            .seq (.reg [(⟨(some 104), .move (.tmp 7), none⟩, .ptr),
                (⟨(some 105), .call k_wicketref11_Queue_Take [(.tmp 104)], none⟩, .any),
                (⟨(some 103), .move (.tmp 105), none⟩, .any),
                (⟨(some 106), .extract (.tmp 103) 0, none⟩, (.int .u64)),
                (⟨(some 107), .extract (.tmp 103) 1, none⟩, .bool),
                (⟨(some 14), .move (.tmp 106), none⟩, (.int .u64)),
                (⟨(some 15), .move (.tmp 107), none⟩, .bool)]) <|
            .seq (.reg [(⟨(some 108), .move (.tmp 12), none⟩, (.int .u64)),
                (⟨(some 109), .move (.tmp 14), none⟩, (.int .u64)),
                (⟨(some 110), .bin .eql (.tmp 108) (.tmp 109), none⟩, .bool),
                (⟨(some 111), .move (.tmp 110), none⟩, .bool),
                (⟨(some 112), .move (.tmp 13), some (111, true)⟩, .bool),
                (⟨(some 113), .move (.tmp 15), some (111, true)⟩, .bool),
                (⟨(some 114), .eqv false .bool (.tmp 112) (.tmp 113), some (111, true)⟩, .bool),
                (⟨(some 115), .pick (.tmp 111) (.tmp 114) (.const (.bool false)), none⟩, .bool),
                (⟨(some 4), .move (.tmp 115), none⟩, .bool)]) <|
            .ret)
            (.seq (.reg [(⟨(some 117), .bin .eql (.tmp 43) (.const (.int .i64 4)), none⟩, .bool),
                (⟨(some 116), .move (.tmp 117), none⟩, .bool)]) <|
            .cond (.tmp 116)
              (.seq (.regd [(⟨0, [], false, ⟨(some 118), .move (.tmp 6), none⟩⟩, .ptr),
                  (⟨1, [], false, ⟨(some 119), .fieldAddr 2 (.tmp 3), none⟩⟩, .ptr),
                  (⟨2, [1], false, ⟨(some 120), .load false 1 (.tmp 119), none⟩⟩, (.int .u64)),
                  (⟨4, [], false, ⟨(some 122), .move (.tmp 7), none⟩⟩, .ptr),
                  (⟨5, [], false, ⟨(some 123), .fieldAddr 2 (.tmp 3), none⟩⟩, .ptr),
                  (⟨6, [5], false, ⟨(some 124), .load false 1 (.tmp 123), none⟩⟩, (.int .u64)),
                  (⟨3, [0, 2, 1], true, ⟨(some 121), .call k_ticket_Queue_Drop [(.tmp 118), (.tmp 120)], none⟩⟩, (.int .i64)),
                  (⟨7, [4, 6, 3, 5, 0, 2, 1], true, ⟨(some 125), .call k_wicketref11_Queue_Drop [(.tmp 122), (.tmp 124)], none⟩⟩, (.int .i64)),
                  (⟨8, [3, 7, 0, 2, 1, 4, 6, 5], false, ⟨(some 126), .bin .eql (.tmp 121) (.tmp 125), none⟩⟩, .bool),
                  (⟨9, [8, 7, 0, 1, 2, 3, 4, 5, 6], false, ⟨(some 4), .move (.tmp 126), none⟩⟩, .bool)]) <|
              .ret)
              (.seq (.reg [(⟨(some 128), .bin .eql (.tmp 43) (.const (.int .i64 5)), none⟩, .bool),
                  (⟨(some 127), .move (.tmp 128), none⟩, .bool)]) <|
              .cond (.tmp 127)
                (.seq (.reg [(⟨(some 130), .move (.tmp 6), none⟩, .ptr),
                    (⟨(some 131), .call k_wicketlaw11_listed [(.tmp 130), (.const (.int .i64 (-1)))], none⟩, .any),
                    (⟨(some 129), .move (.tmp 131), none⟩, .any),
                    (⟨(some 132), .extract (.tmp 129) 0, none⟩, .any),
                    (⟨(some 133), .extract (.tmp 129) 1, none⟩, .bool),
                    (⟨(some 16), .move (.tmp 132), none⟩, .any),
                    (⟨(some 17), .move (.tmp 133), none⟩, .bool)]) <|
                .seq (.reg [(⟨(some 134), .fieldAddr 3 (.tmp 3), none⟩, .ptr),
                    (⟨(some 135), .load false 1 (.tmp 134), none⟩, (.int .i64)),
                    (⟨(some 136), .bin .rem (.tmp 135) (.const (.int .i64 5)), none⟩, (.int .i64)),
                    (⟨(some 137), .bin .add (.tmp 136) (.const (.int .i64 5)), none⟩, (.int .i64)),
                    (⟨(some 138), .bin .rem (.tmp 137) (.const (.int .i64 5)), none⟩, (.int .i64)),
                    (⟨(some 18), .move (.tmp 138), none⟩, (.int .i64))]) <|
                .seq (.reg [(⟨(some 140), .move (.tmp 6), none⟩, .ptr),
                    (⟨(some 141), .move (.tmp 18), none⟩, (.int .i64)),
                    (⟨(some 142), .call k_wicketlaw11_listed [(.tmp 140), (.tmp 141)], none⟩, .any),
                    (⟨(some 139), .move (.tmp 142), none⟩, .any),
                    (⟨(some 143), .extract (.tmp 139) 0, none⟩, .any),
                    (⟨(some 144), .extract (.tmp 139) 1, none⟩, .bool),
                    (⟨(some 19), .move (.tmp 143), none⟩, .any),
                    (⟨(some 20), .move (.tmp 144), none⟩, .bool)]) <|
                .seq (.regd [(⟨0, [], false, ⟨(some 145), .move (.tmp 17), none⟩⟩, .bool),
                    (⟨1, [0], false, ⟨(some 146), .move (.tmp 145), none⟩⟩, .bool),
                    (⟨2, [1, 0], false, ⟨(some 147), .move (.tmp 20), some (146, true)⟩⟩, .bool),
                    (⟨3, [1, 2, 0], false, ⟨(some 148), .pick (.tmp 146) (.tmp 147) (.const (.bool false)), none⟩⟩, .bool),
                    (⟨4, [3, 1, 2, 0], false, ⟨(some 149), .move (.tmp 148), none⟩⟩, .bool),
                    (⟨5, [4, 3, 1, 2, 0], false, ⟨(some 150), .move (.tmp 16), some (149, true)⟩⟩, .any),
                    (⟨6, [4, 3, 1, 2, 0], false, ⟨(some 151), .move (.tmp 7), some (149, true)⟩⟩, .ptr),
                    (⟨7, [6, 4, 3, 1, 2, 0], false, ⟨(some 152), .nilCheck (.tmp 151), some (149, true)⟩⟩, .ptr),
                    (⟨8, [7, 4, 6, 3, 1, 2, 0], false, ⟨(some 153), .fieldAddr 0 (.tmp 152), some (149, true)⟩⟩, .ptr),
                    (⟨9, [8, 4, 7, 6, 3, 1, 2, 0], false, ⟨(some 154), .load false 1 (.tmp 153), some (149, true)⟩⟩, .any),
                    (⟨10, [5, 9, 4, 3, 1, 2, 0, 8, 7, 6], true, ⟨(some 155), .call k_wicketlaw11_same [(.tmp 150), (.tmp 154)], some (149, true)⟩⟩, .bool),
                    (⟨11, [4, 10, 3, 1, 2, 0, 5, 9, 8, 7, 6], false, ⟨(some 156), .pick (.tmp 149) (.tmp 155) (.const (.bool false)), none⟩⟩, .bool),
                    (⟨12, [11, 10, 4, 3, 1, 2, 0, 5, 9, 8, 7, 6], false, ⟨(some 157), .move (.tmp 156), none⟩⟩, .bool),
                    (⟨13, [12, 11, 10, 4, 3, 1, 2, 0, 5, 9, 8, 7, 6], false, ⟨(some 158), .move (.tmp 19), some (157, true)⟩⟩, .any),
                    (⟨14, [12, 11, 10, 4, 3, 1, 2, 0, 5, 9, 8, 7, 6], false, ⟨(some 159), .move (.tmp 7), some (157, true)⟩⟩, .ptr),
                    (⟨15, [14, 12, 11, 10, 4, 3, 1, 2, 0, 5, 9, 8, 7, 6], false, ⟨(some 160), .nilCheck (.tmp 159), some (157, true)⟩⟩, .ptr),
                    (⟨16, [15, 12, 14, 11, 10, 4, 3, 1, 2, 0, 5, 9, 8, 7, 6], false, ⟨(some 161), .fieldAddr 0 (.tmp 160), some (157, true)⟩⟩, .ptr),
                    (⟨17, [16, 12, 15, 14, 11, 10, 4, 3, 1, 2, 0, 5, 9, 8, 7, 6], false, ⟨(some 162), .load false 1 (.tmp 161), some (157, true)⟩⟩, .any),
                    (⟨18, [12, 11, 10, 4, 3, 1, 2, 0, 5, 9, 8, 7, 6], false, ⟨(some 163), .move (.tmp 18), some (157, true)⟩⟩, (.int .i64)),
                    (⟨19, [12, 11, 10, 4, 3, 1, 2, 0, 5, 9, 8, 7, 6], false, ⟨(some 164), .move (.tmp 7), some (157, true)⟩⟩, .ptr),
                    (⟨20, [19, 12, 11, 10, 4, 3, 1, 2, 0, 5, 9, 8, 7, 6], false, ⟨(some 165), .nilCheck (.tmp 164), some (157, true)⟩⟩, .ptr),
                    (⟨21, [20, 12, 19, 11, 10, 4, 3, 1, 2, 0, 5, 9, 8, 7, 6], false, ⟨(some 166), .fieldAddr 0 (.tmp 165), some (157, true)⟩⟩, .ptr),
                    (⟨22, [21, 12, 20, 19, 11, 10, 4, 3, 1, 2, 0, 5, 9, 8, 7, 6], false, ⟨(some 167), .load false 1 (.tmp 166), some (157, true)⟩⟩, .any),
                    (⟨23, [22, 12, 21, 20, 19, 11, 10, 4, 3, 1, 2, 0, 5, 9, 8, 7, 6], false, ⟨(some 168), .lenS (.tmp 167), some (157, true)⟩⟩, (.int .i64)),
                    (⟨24, [18, 23, 12, 11, 10, 4, 3, 1, 2, 0, 5, 9, 8, 7, 6, 22, 21, 20, 19], false, ⟨(some 169), .minmax false [(.tmp 163), (.tmp 168)], some (157, true)⟩⟩, (.int .i64)),
                    (⟨25, [17, 24, 12, 16, 15, 14, 11, 10, 4, 3, 1, 2, 0, 5, 9, 8, 7, 6, 18, 23, 22, 21, 20, 19], false, ⟨(some 170), .slice 1 (.tmp 162) none (some (.tmp 169)) none, some (157, true)⟩⟩, .any),
                    (⟨26, [13, 25, 12, 11, 10, 4, 3, 1, 2, 0, 5, 9, 8, 7, 6, 17, 24, 16, 15, 14, 18, 23, 22, 21, 20, 19], true, ⟨(some 171), .call k_wicketlaw11_same [(.tmp 158), (.tmp 170)], some (157, true)⟩⟩, .bool),
                    (⟨27, [12, 26, 11, 10, 4, 3, 1, 2, 0, 5, 9, 8, 7, 6, 13, 25, 17, 24, 16, 15, 14, 18, 23, 22, 21, 20, 19], false, ⟨(some 172), .pick (.tmp 157) (.tmp 171) (.const (.bool false)), none⟩⟩, .bool),
                    (⟨28, [27, 26, 0, 1, 2, 3, 4, 5, 6, 7, 8, 9, 10, 11, 12, 13, 14, 15, 16, 17, 18, 19, 20, 21, 22, 23, 24, 25], false, ⟨(some 4), .move (.tmp 172), none⟩⟩, .bool)]) <|
                .ret)
                (.seq (.reg [(⟨(some 174), .bin .eql (.tmp 43) (.const (.int .i64 6)), none⟩, .bool),
                    (⟨(some 173), .move (.tmp 174), none⟩, .bool)]) <|
                .cond (.tmp 173)
                  (.seq (.reg [(⟨(some 175), .move (.tmp 6), none⟩, .ptr),
                      (⟨(some 176), .call k_ticket_Queue_All [(.tmp 175)], none⟩, (.fn k_ticket_Queue_All_1 1)),
                      (⟨(some 21), .move (.tmp 176), none⟩, (.fn k_ticket_Queue_All_1 1))]) <|
                  .seq (.seq (.reg [(⟨(some 177), .move (.tmp 21), none⟩, (.fn k_ticket_Queue_All_1 1)),
                        (⟨(some 178), .eqv false .func (.tmp 177) (.const .nilFunc), none⟩, .bool)]) <|
                    .cond (.tmp 178)
                      (.seq (.reg [(⟨(some 4), .move (.const (.bool false)), none⟩, .bool)]) <|
                      .ret)
                      (.skip)) <|
                  .reg [(⟨(some 179), .move (.tmp 0), none⟩, .ptr),
                    (⟨(some 180), .move (.tmp 0), none⟩, .ptr),
                    (⟨(some 181), .nilCheck (.tmp 180), none⟩, .ptr),
                    (⟨(some 182), .fieldAddr 4 (.tmp 181), none⟩, .ptr),
                    (⟨(some 183), .load false 1 (.tmp 182), none⟩, .any),
                    (⟨(some 184), .move (.tmp 5), none⟩, (.int .i64)),
                    (⟨(some 185), .move (.tmp 21), none⟩, (.fn k_ticket_Queue_All_1 1)),
                    (⟨(some 186), .build [(.int .i64 0), .nilFunc] [(0, 1, (.tmp 184)), (1, 1, (.tmp 185))], none⟩, .any),
                    (⟨(some 187), .buildSlice 1 2 [(.int .i64 0), .nilFunc] [(0, 2, (.tmp 186))], none⟩, .any),
                    (⟨(some 188), .append 16 2 (.tmp 183) (.tmp 187), none⟩, .any),
                    (⟨(some 189), .nilCheck (.tmp 179), none⟩, .ptr),
                    (⟨(some 190), .fieldAddr 4 (.tmp 189), none⟩, .ptr),
                    (⟨none, .store 1 (.tmp 190) (.tmp 188), none⟩, .any)])
                  (.seq (.reg [(⟨(some 192), .bin .eql (.tmp 43) (.const (.int .i64 7)), none⟩, .bool),
                      (⟨(some 191), .move (.tmp 192), none⟩, .bool)]) <|
                  .cond (.tmp 191)
                    (.seq (.regd [(⟨0, [], false, ⟨(some 193), .move (.tmp 0), none⟩⟩, .ptr),
                        (⟨1, [], false, ⟨(some 194), .move (.tmp 5), none⟩⟩, (.int .i64)),
                        (⟨2, [1], false, ⟨(some 195), .bin .sub (.const (.int .i64 1)) (.tmp 194), none⟩⟩, (.int .i64)),
                        (⟨3, [], false, ⟨(some 196), .move (.tmp 0), none⟩⟩, .ptr),
                        (⟨4, [], false, ⟨(some 197), .move (.tmp 5), none⟩⟩, (.int .i64)),
                        (⟨5, [4], false, ⟨(some 198), .bin .sub (.const (.int .i64 1)) (.tmp 197), none⟩⟩, (.int .i64)),
                        (⟨6, [], false, ⟨(some 199), .move (.tmp 6), none⟩⟩, .ptr),
                        (⟨8, [], false, ⟨(some 201), .move (.tmp 7), none⟩⟩, .ptr),
                        (⟨10, [0], false, ⟨(some 203), .nilCheck (.tmp 193), none⟩⟩, .ptr),
                        (⟨11, [10, 0], false, ⟨(some 204), .fieldAddr 0 (.tmp 203), none⟩⟩, .ptr),
                        (⟨14, [3], false, ⟨(some 206), .nilCheck (.tmp 196), none⟩⟩, .ptr),
                        (⟨15, [14, 3], false, ⟨(some 207), .fieldAddr 2 (.tmp 206), none⟩⟩, .ptr),
                        (⟨7, [6], true, ⟨(some 200), .call k_ticket_Queue_Copy [(.tmp 199)], none⟩⟩, .ptr),
                        (⟨9, [8, 7, 6], true, ⟨(some 202), .call k_wicketref11_Queue_Copy [(.tmp 201)], none⟩⟩, .ptr),
                        (⟨12, [11, 2, 0, 1, 6, 7, 9, 10, 8], false, ⟨(some 205), .idxArr 2 1 (.tmp 204) (.tmp 195), none⟩⟩, .ptr),
                        (⟨13, [12, 7, 9, 0, 1, 2, 6, 11, 10, 8], true, ⟨none, .store 1 (.tmp 205) (.tmp 200), none⟩⟩, .any),
                        (⟨16, [15, 5, 0, 1, 2, 3, 4, 6, 7, 8, 9, 10, 11, 12, 13, 14], false, ⟨(some 208), .idxArr 2 1 (.tmp 207) (.tmp 198), none⟩⟩, .ptr),
                        (⟨17, [16, 9, 13, 0, 1, 2, 3, 4, 5, 6, 7, 8, 10, 11, 12, 15, 14], true, ⟨none, .store 1 (.tmp 208) (.tmp 202), none⟩⟩, .any)]) <|
                    .seq (.reg [(⟨(some 22), .move (.const (.slice none 0 0)), none⟩, .any)]) <|
                    .seq (.cutn [(22, .any)] <|
                        .seq (.reg [(⟨(some 209), .move (.tmp 0), none⟩, .ptr),
                            (⟨(some 210), .nilCheck (.tmp 209), none⟩, .ptr),
                            (⟨(some 211), .fieldAddr 4 (.tmp 210), none⟩, .ptr),
                            (⟨(some 212), .load false 1 (.tmp 211), none⟩, .any),
                            (⟨(some 213), .lenS (.tmp 212), none⟩, (.int .i64)),
                            (⟨(some 214), .move (.const (.int .i64 0)), none⟩, (.int .i64))]) <|
                        .block 1 <|
                          .loop [(22, .any), (214, (.int .i64))] <|
                            .seq (.reg [(⟨(some 215), .bin .lss (.tmp 214) (.tmp 213), none⟩, .any)]) <|
                            .seq (.cond (.tmp 215)
                                (.skip)
                                (.exit 1)) <|
                            .seq (.cutn [(22, .any)] <|
                                .block 2 <|
                                  .seq (.reg [(⟨(some 216), .idxSlice 2 (.tmp 212) (.tmp 214), none⟩, .ptr),
                                      (⟨(some 217), .load true 2 (.tmp 216), none⟩, .any),
                                      (⟨(some 24), .alloc [(.int .i64 0), .nilFunc], none⟩, .ptr),
                                      (⟨none, .store 2 (.tmp 24) (.tmp 217), none⟩, .any)]) <|
                                  .seq (.reg [(⟨(some 218), .fieldAddr 0 (.tmp 24), none⟩, .ptr),
                                      (⟨(some 219), .load false 1 (.tmp 218), none⟩, (.int .i64)),
                                      (⟨(some 220), .move (.tmp 5), none⟩, (.int .i64)),
                                      (⟨(some 221), .bin .eql (.tmp 219) (.tmp 220), none⟩, .bool)]) <|
                                  .cond (.tmp 221)
                                    (.reg [(⟨(some 222), .move (.tmp 22), none⟩, .any),
                                      (⟨(some 223), .load true 2 (.tmp 24), none⟩, .any),
                                      (⟨(some 224), .buildSlice 1 2 [(.int .i64 0), .nilFunc] [(0, 2, (.tmp 223))], none⟩, .any),
                                      (⟨(some 225), .append 16 2 (.tmp 222) (.tmp 224), none⟩, .any),
                                      (⟨(some 22), .move (.tmp 225), none⟩, .any)])
                                    (.skip)) <|
                            .reg [(⟨(some 226), .bin .add (.tmp 214) (.const (.int .i64 1)), none⟩, (.int .i64)),
                              (⟨(some 214), .move (.tmp 226), none⟩, (.int .i64))]) <|
                    .seq (.reg [(⟨(some 227), .move (.tmp 0), none⟩, .ptr),
                        (⟨(some 228), .move (.tmp 22), none⟩, .any),
                        (⟨(some 229), .nilCheck (.tmp 227), none⟩, .ptr),
                        (⟨(some 230), .fieldAddr 4 (.tmp 229), none⟩, .ptr),
                        (⟨none, .store 1 (.tmp 230) (.tmp 228), none⟩, .any)]) <|
                    .seq (.reg [(⟨(some 231), .move (.tmp 0), none⟩, .ptr),
                        (⟨(some 232), .move (.tmp 5), none⟩, (.int .i64)),
                        (⟨(some 233), .bin .sub (.const (.int .i64 1)) (.tmp 232), none⟩, (.int .i64)),
                        (⟨(some 234), .nilCheck (.tmp 231), none⟩, .ptr),
                        (⟨(some 235), .fieldAddr 0 (.tmp 234), none⟩, .ptr),
                        (⟨(some 236), .idxArr 2 1 (.tmp 235) (.tmp 233), none⟩, .ptr),
                        (⟨(some 237), .load false 1 (.tmp 236), none⟩, .ptr),
                        (⟨(some 238), .eqv true .ptr (.tmp 237) (.const (.pointer none)), none⟩, .bool),
                        (⟨(some 4), .move (.tmp 238), none⟩, .bool)]) <|
                    .ret)
                    (.skip)))))))) <|
  .seq (.reg [(⟨(some 4), .move (.const (.bool true)), none⟩, .bool)]) <|
  .ret
def f_wicketlaw11_pair_plays_L80 (n : Nat) (x1 : Int) (x65 : Value) (n66 : Nat) (v67 : Value) (v68 : Int) (h69 : Heap) : Option (((Value × Int × Unit) × Heap) ⊕ ((Value × Unit) × Heap)) :=
  bif (decide (v68 < (n66 : Int))) then
    ((((ixB 2 x65 v68).bind fun q70 =>
      (ldA 2 h69 (some q70)).bind fun cs71 =>
      bnd ((Heap.new h69 (.cells [(.int .i64 0), .nilFunc] false 0))) fun h72 =>
      (stB 2 (.agg ⟨cs71⟩) h72 (some (nwA h69))).bind fun h73 =>
      (ldT (.int .i64) h73 (some (fa (nwA h69) 0))).bind fun x74 =>
      bif (decide (x74 = (Int.tmod (IntKind.i64.wrap ((Int.tmod x1 2) + 2)) 2))) then
        ((ldA 2 h73 (some (nwA h69))).bind fun cs75 =>
        (fillL [(.int .i64 0), .nilFunc] [(0, 2, (.agg ⟨cs75⟩))]).bind fun cs76 =>
        bnd ((Heap.new h73 (.cells cs76 false 2))) fun h77 =>
        (appendK h77 16 2 v67 (.slice (some ⟨Heap.next h73, 0, some 0⟩) 1 1)).bind fun p78 =>
        some ((p78.1, ()), p78.2))
      else
        (some ((v67, ()), h73))) : Option ((Value × Unit) × Heap)).bind fun a79 =>
    some (.inl ((a79.1.1, ((IntKind.i64.wrap (v68 + 1)), ())), a79.2)))
  else
    (some (.inr ((v67, ()), h69)))
noncomputable def sf_wicketlaw11_pair_plays (n : Nat) : Sf := sfOf [(k_ticket_Queue_Put, s_ticket_Queue_Put n), (k_wicketref11_Queue_Put, s_wicketref11_Queue_Put n), (k_ticket_Queue_First, s_ticket_Queue_First n), (k_wicketref11_Queue_First, s_wicketref11_Queue_First n), (k_ticket_Queue_Len, s_ticket_Queue_Len n), (k_ticket_Queue_Place, s_ticket_Queue_Place n), (k_wicketref11_Queue_Place, s_wicketref11_Queue_Place n), (k_ticket_Queue_Take, s_ticket_Queue_Take n), (k_wicketref11_Queue_Take, s_wicketref11_Queue_Take n), (k_ticket_Queue_Drop, s_ticket_Queue_Drop n), (k_wicketref11_Queue_Drop, s_wicketref11_Queue_Drop n), (k_wicketlaw11_listed, s_wicketlaw11_listed n), (k_wicketlaw11_same, s_wicketlaw11_same n), (k_ticket_Queue_All, s_ticket_Queue_All n), (k_ticket_Queue_Copy, s_ticket_Queue_Copy n), (k_wicketref11_Queue_Copy, s_wicketref11_Queue_Copy n)]
noncomputable def it_wicketlaw11_pair_plays (n : Nat) : It := itOf []
def f_wicketlaw11_pair_plays (n : Nat) (u0 : Option Addr) (u1 : Value) (h : Heap) : Option ((Bool × Unit) × Heap) :=
  bif (cellsOf u1).all isCell then
    (bnd ((Heap.new h (.cells (cellsOf u1) false 0))) fun h0 =>
    (ldT (.int .i64) h0 (some (fa (nwA h) 1))).bind fun x1 =>
    (u0).bind fun q2 =>
    (ixA 2 1 (some (fa q2 0)) (Int.tmod (IntKind.i64.wrap ((Int.tmod x1 2) + 2)) 2)).bind fun q3 =>
    (ldT .ptr h0 (some q3)).bind fun x4 =>
    (u0).bind fun q5 =>
    (ixA 2 1 (some (fa q5 2)) (Int.tmod (IntKind.i64.wrap ((Int.tmod x1 2) + 2)) 2)).bind fun q6 =>
    (ldT .ptr h0 (some q6)).bind fun x7 =>
    (ldT (.int .i64) h0 (some (fa (nwA h) 0))).bind fun x8 =>
    bif (decide (x8 = 1)) then
      ((ldT (.int .u64) h0 (some (fa (nwA h) 2))).bind fun x9 =>
      (ldT (.int .u64) h0 (some (fa (nwA h) 2))).bind fun x10 =>
      (f_ticket_Queue_Put n x4 x9 (hid h0 [] ((Addr.block (fa (nwA h) 2)) :: []))).bind fun p11 =>
      bnd (Heap.putBack p11.2 h0 ([] ++ ((Addr.block (fa (nwA h) 2)) :: []))) fun h12 =>
      (f_wicketref11_Queue_Put n x7 x10 h12).bind fun p13 =>
      some (((decide (p11.1.1 = p13.1.1)), ()), p13.2))
    else
      (bif (decide (x8 = 2)) then
        ((f_ticket_Queue_First n x4 h0).bind fun p14 =>
        (f_wicketref11_Queue_First n x7 p14.2).bind fun p15 =>
        bif (decide (p14.1.1 = p15.1.1)) then
          (bif (p14.1.2.1 == p15.1.2.1) then
            ((x7).bind fun q16 =>
            (ldT .any p15.2 (some (fa q16 0))).bind fun x17 =>
            (lenB x17).bind fun n18 =>
            (f_ticket_Queue_Len n x4 (hid p15.2 [] ((Addr.block (fa q16 0)) :: []))).bind fun p19 =>
            bnd (Heap.putBack p19.2 p15.2 ([] ++ ((Addr.block (fa q16 0)) :: []))) fun h20 =>
            bif (decide (p19.1.1 = (n18 : Int))) then
              ((ldT (.int .u64) h20 (some (fa (nwA h) 2))).bind fun x21 =>
              (ldT (.int .u64) h20 (some (fa (nwA h) 2))).bind fun x22 =>
              (f_ticket_Queue_Place n x4 x21 (hid h20 [] ((Addr.block (fa (nwA h) 2)) :: []))).bind fun p23 =>
              bnd (Heap.putBack p23.2 h20 ([] ++ ((Addr.block (fa (nwA h) 2)) :: []))) fun h24 =>
              (f_wicketref11_Queue_Place n x7 x22 h24).bind fun p25 =>
              some (((decide (p23.1.1 = p25.1.1)), ()), p25.2))
            else
              (some ((false, ()), h20)))
          else
            (some ((false, ()), p15.2)))
        else
          (some ((false, ()), p15.2)))
      else
        (bif (decide (x8 = 3)) then
          ((f_ticket_Queue_Take n x4 h0).bind fun p26 =>
          (f_wicketref11_Queue_Take n x7 p26.2).bind fun p27 =>
          bif (decide (p26.1.1 = p27.1.1)) then
            (some (((p26.1.2.1 == p27.1.2.1), ()), p27.2))
          else
            (some ((false, ()), p27.2)))
        else
          (bif (decide (x8 = 4)) then
            ((ldT (.int .u64) h0 (some (fa (nwA h) 2))).bind fun x28 =>
            (ldT (.int .u64) h0 (some (fa (nwA h) 2))).bind fun x29 =>
            (f_ticket_Queue_Drop n x4 x28 (hid h0 [] ((Addr.block (fa (nwA h) 2)) :: []))).bind fun p30 =>
            bnd (Heap.putBack p30.2 h0 ([] ++ ((Addr.block (fa (nwA h) 2)) :: []))) fun h31 =>
            (f_wicketref11_Queue_Drop n x7 x29 h31).bind fun p32 =>
            some (((decide (p30.1.1 = p32.1.1)), ()), p32.2))
          else
            (bif (decide (x8 = 5)) then
              ((f_wicketlaw11_listed n x4 (-1) h0).bind fun p33 =>
              (ldT (.int .i64) p33.2 (some (fa (nwA h) 3))).bind fun x34 =>
              (f_wicketlaw11_listed n x4 (Int.tmod (IntKind.i64.wrap ((Int.tmod x34 5) + 5)) 5) p33.2).bind fun p35 =>
              bif p33.1.2.1 then
                (bif p35.1.2.1 then
                  ((x7).bind fun q36 =>
                  (ldT .any p35.2 (some (fa q36 0))).bind fun x37 =>
                  (f_wicketlaw11_same n p33.1.1 x37 p35.2).bind fun p38 =>
                  bif p38.1.1 then
                    ((x7).bind fun q39 =>
                    (ldT .any p38.2 (some (fa q39 0))).bind fun x40 =>
                    (x7).bind fun q41 =>
                    (ldT .any p38.2 (some (fa q41 0))).bind fun x42 =>
                    (lenB x42).bind fun n43 =>
                    (sliceK p38.2 1 none (some (.int .i64 (if (n43 : Int) < (Int.tmod (IntKind.i64.wrap ((Int.tmod x34 5) + 5)) 5) then (n43 : Int) else (Int.tmod (IntKind.i64.wrap ((Int.tmod x34 5) + 5)) 5)))) none x40).bind fun p44 =>
                    (f_wicketlaw11_same n p35.1.1 p44.1 p38.2).bind fun p45 =>
                    some ((p45.1.1, ()), p45.2))
                  else
                    (some ((false, ()), p38.2)))
                else
                  (some ((false, ()), p35.2)))
              else
                (some ((false, ()), p35.2)))
            else
              (bif (decide (x8 = 6)) then
                ((f_ticket_Queue_All n x4 h0).bind fun p46 =>
                (eqVals p46.2 .func (Ty.val (.fn k_ticket_Queue_All_1 1) p46.1.1) .nilFunc).bind fun b47 =>
                bif b47 then
                  (some ((false, ()), p46.2))
                else
                  ((u0).bind fun q48 =>
                  (ldT .any p46.2 (some (fa q48 4))).bind fun x49 =>
                  (fillL [(.int .i64 0), .nilFunc] [(0, 1, (.int .i64 (Int.tmod (IntKind.i64.wrap ((Int.tmod x1 2) + 2)) 2))), (1, 1, (Ty.val (.fn k_ticket_Queue_All_1 1) p46.1.1))]).bind fun cs50 =>
                  (fillL [(.int .i64 0), .nilFunc] [(0, 2, (.agg ⟨cs50⟩))]).bind fun cs51 =>
                  bnd ((Heap.new p46.2 (.cells cs51 false 2))) fun h52 =>
                  (appendK h52 16 2 x49 (.slice (some ⟨Heap.next p46.2, 0, some 0⟩) 1 1)).bind fun p53 =>
                  (u0).bind fun q54 =>
                  (stB 1 p53.1 p53.2 (some (fa q54 4))).bind fun h55 =>
                  some ((true, ()), h55)))
              else
                (bif (decide (x8 = 7)) then
                  ((u0).bind fun q56 =>
                  (u0).bind fun q57 =>
                  (f_ticket_Queue_Copy n x4 h0).bind fun p58 =>
                  (f_wicketref11_Queue_Copy n x7 p58.2).bind fun p59 =>
                  (ixA 2 1 (some (fa q56 0)) (IntKind.i64.wrap (1 - (Int.tmod (IntKind.i64.wrap ((Int.tmod x1 2) + 2)) 2)))).bind fun q60 =>
                  (stB 1 (.pointer p58.1.1) p59.2 (some q60)).bind fun h61 =>
                  (ixA 2 1 (some (fa q57 2)) (IntKind.i64.wrap (1 - (Int.tmod (IntKind.i64.wrap ((Int.tmod x1 2) + 2)) 2)))).bind fun q62 =>
                  (stB 1 (.pointer p59.1.1) h61 (some q62)).bind fun h63 =>
                  (((u0).bind fun q64 =>
                    (ldT .any h63 (some (fa q64 4))).bind fun x65 =>
                    (lenB x65).bind fun n66 =>
                    loopT (fun a => f_wicketlaw11_pair_plays_L80 n x1 x65 n66 a.1.1 a.1.2.1 a.2) n (((.slice none 0 0), (0, ())), h63)) : Option ((Value × Unit) × Heap)).bind fun a81 =>
                  (u0).bind fun q82 =>
                  (stB 1 a81.1.1 a81.2 (some (fa q82 4))).bind fun h83 =>
                  (u0).bind fun q84 =>
                  (ixA 2 1 (some (fa q84 0)) (IntKind.i64.wrap (1 - (Int.tmod (IntKind.i64.wrap ((Int.tmod x1 2) + 2)) 2)))).bind fun q85 =>
                  (ldT .ptr h83 (some q85)).bind fun x86 =>
                  some (((!Option.isNone x86), ()), h83))
                else
                  (some ((true, ()), h0)))))))))
  else
    (none)
def rs_wicketlaw11_pair_plays : Rs := [(.tmp 4, .bool)]
def ps_wicketlaw11_pair_plays : List Ty := [.ptr, .any]
theorem e_wicketlaw11_pair_plays (n : Nat) (u0 : Option Addr) (u1 : Value) (h : Heap) : f_wicketlaw11_pair_plays n u0 u1 h = fB (sf_wicketlaw11_pair_plays n) (it_wicketlaw11_pair_plays n) n c2_wicketlaw11_pair_plays rs_wicketlaw11_pair_plays ps_wicketlaw11_pair_plays (u0, (u1, ())) h := by kernel_rfl
noncomputable def s_wicketlaw11_pair_plays (n : Nat) : Sf1 := mkSf ps_wicketlaw11_pair_plays rs_wicketlaw11_pair_plays fun a h => f_wicketlaw11_pair_plays n a.1 a.2.1 h

/- wicket/wicketlaw11.TicketPlays -/
def c2_wicketlaw11_TicketPlays : C2 :=
  .seq (.reg [(⟨(some 2), .move (.const (.bool false)), none⟩, .bool)]) <|
  .seq (.seq (.reg [(⟨(some 12), .call k_wicketlaw11_awake [], none⟩, .bool),
        (⟨(some 13), .un .not (.tmp 12), none⟩, .bool)]) <|
    .cond (.tmp 13)
      (.seq (.reg [(⟨(some 2), .move (.const (.bool false)), none⟩, .bool)]) <|
      .ret)
      (.skip)) <|
  .seq (.reg [(⟨(some 14), .build [(.slice none 0 0), (.int .u64 0)] [], none⟩, .any),
      (⟨(some 15), .box (.tmp 14), none⟩, .ptr),
      (⟨(some 16), .build [(.slice none 0 0), (.int .u64 0)] [], none⟩, .any),
      (⟨(some 17), .box (.tmp 16), none⟩, .ptr),
      (⟨(some 18), .build [(.pointer none), (.pointer none)] [(0, 1, (.tmp 15)), (1, 1, (.tmp 17))], none⟩, .any),
      (⟨(some 19), .build [(.slice none 0 0), (.int .u64 0)] [], none⟩, .any),
      (⟨(some 20), .box (.tmp 19), none⟩, .ptr),
      (⟨(some 21), .build [(.slice none 0 0), (.int .u64 0)] [], none⟩, .any),
      (⟨(some 22), .box (.tmp 21), none⟩, .ptr),
      (⟨(some 23), .build [(.pointer none), (.pointer none)] [(0, 1, (.tmp 20)), (1, 1, (.tmp 22))], none⟩, .any),
      (⟨(some 24), .build [(.pointer none), (.pointer none), (.pointer none), (.pointer none), (.slice none 0 0)] [(0, 2, (.tmp 18)), (2, 2, (.tmp 23))], none⟩, .any),
      (⟨(some 25), .box (.tmp 24), none⟩, .ptr),
      (⟨(some 3), .move (.tmp 25), none⟩, .ptr)]) <|
  .seq (.cut [(2, .bool)] <|
      .seq (.reg [(⟨(some 4), .move (.const (.int .i64 0)), none⟩, (.int .i64))]) <|
      .block 0 <|
        .loop [(2, .bool), (4, (.int .i64))] <|
          .seq (.seq (.cutn [(33, .bool)] <|
                .reg [(⟨(some 26), .move (.tmp 4), none⟩, (.int .i64)),
                  (⟨(some 27), .move (.tmp 0), none⟩, .any),
                  (⟨(some 28), .lenS (.tmp 27), none⟩, (.int .i64)),
                  (⟨(some 29), .bin .lss (.tmp 26) (.tmp 28), none⟩, .bool),
                  (⟨(some 30), .move (.tmp 29), none⟩, .bool),
                  (⟨(some 31), .move (.tmp 4), some (30, true)⟩, (.int .i64)),
                  (⟨(some 32), .bin .lss (.tmp 31) (.const (.int .i64 60)), some (30, true)⟩, .bool),
                  (⟨(some 33), .pick (.tmp 30) (.tmp 32) (.const (.bool false)), none⟩, .bool)]) <|
            .cond (.tmp 33)
              (.skip)
              (.exit 0)) <|
          .seq (.block 1 <|
              .seq (.reg [(⟨(some 36), .move (.tmp 3), none⟩, .ptr),
                  (⟨(some 37), .move (.tmp 0), none⟩, .any),
                  (⟨(some 38), .move (.tmp 4), none⟩, (.int .i64)),
                  (⟨(some 39), .idxSlice 4 (.tmp 37) (.tmp 38), none⟩, .ptr),
                  (⟨(some 40), .load true 4 (.tmp 39), none⟩, .any),
                  (⟨(some 41), .call k_wicketlaw11_pair_plays [(.tmp 36), (.tmp 40)], none⟩, .bool),
                  (⟨(some 42), .un .not (.tmp 41), none⟩, .bool)]) <|
              .cond (.tmp 42)
                (.seq (.reg [(⟨(some 2), .move (.const (.bool false)), none⟩, .bool)]) <|
                .ret)
                (.skip)) <|
          .reg [(⟨(some 34), .move (.tmp 4), none⟩, (.int .i64)),
            (⟨(some 35), .bin .add (.tmp 34) (.const (.int .i64 1)), none⟩, (.int .i64)),
            (⟨(some 4), .move (.tmp 35), none⟩, (.int .i64))]) <|
  .seq (.cut [(2, .bool)] <|
      .seq (.reg [(⟨(some 5), .move (.const (.int .i64 0)), none⟩, (.int .i64))]) <|
      .block 2 <|
        .loop [(2, .bool), (5, (.int .i64))] <|
          .seq (.seq (.reg [(⟨(some 43), .move (.tmp 5), none⟩, (.int .i64)),
                (⟨(some 44), .bin .lss (.tmp 43) (.const (.int .i64 2)), none⟩, .bool)]) <|
            .cond (.tmp 44)
              (.skip)
              (.exit 2)) <|
          .seq (.block 3 <|
              .seq (.reg [(⟨(some 48), .move (.tmp 3), none⟩, .ptr),
                  (⟨(some 49), .move (.tmp 5), none⟩, (.int .i64)),
                  (⟨(some 50), .nilCheck (.tmp 48), none⟩, .ptr),
                  (⟨(some 51), .fieldAddr 0 (.tmp 50), none⟩, .ptr),
                  (⟨(some 52), .idxArr 2 1 (.tmp 51) (.tmp 49), none⟩, .ptr),
                  (⟨(some 53), .load false 1 (.tmp 52), none⟩, .ptr),
                  (⟨(some 54), .call k_wicketlaw11_listed [(.tmp 53), (.const (.int .i64 (-1)))], none⟩, .any),
                  (⟨(some 47), .move (.tmp 54), none⟩, .any),
                  (⟨(some 55), .extract (.tmp 47) 0, none⟩, .any),
                  (⟨(some 56), .extract (.tmp 47) 1, none⟩, .bool),
                  (⟨(some 6), .move (.tmp 55), none⟩, .any),
                  (⟨(some 7), .move (.tmp 56), none⟩, .bool)]) <|
              .seq (.cutn [(72, .bool)] <|
                  .reg [(⟨(some 57), .move (.tmp 7), none⟩, .bool),
                    (⟨(some 58), .un .not (.tmp 57), none⟩, .bool),
                    (⟨(some 59), .move (.tmp 58), none⟩, .bool),
                    (⟨(some 60), .move (.tmp 6), some (59, false)⟩, .any),
                    (⟨(some 61), .move (.tmp 3), some (59, false)⟩, .ptr),
                    (⟨(some 62), .move (.tmp 5), some (59, false)⟩, (.int .i64)),
                    (⟨(some 63), .nilCheck (.tmp 61), some (59, false)⟩, .ptr),
                    (⟨(some 64), .fieldAddr 2 (.tmp 63), some (59, false)⟩, .ptr),
                    (⟨(some 65), .idxArr 2 1 (.tmp 64) (.tmp 62), some (59, false)⟩, .ptr),
                    (⟨(some 66), .load false 1 (.tmp 65), some (59, false)⟩, .ptr),
                    (⟨(some 67), .nilCheck (.tmp 66), some (59, false)⟩, .ptr),
                    (⟨(some 68), .fieldAddr 0 (.tmp 67), some (59, false)⟩, .ptr),
                    (⟨(some 69), .load false 1 (.tmp 68), some (59, false)⟩, .any),
                    (⟨(some 70), .call k_wicketlaw11_same [(.tmp 60), (.tmp 69)], some (59, false)⟩, .bool),
                    (⟨(some 71), .un .not (.tmp 70), some (59, false)⟩, .bool),
                    (⟨(some 72), .pick (.tmp 59) (.const (.bool true)) (.tmp 71), none⟩, .bool)]) <|
              .cond (.tmp 72)
                (.seq (.reg [(⟨(some 2), .move (.const (.bool false)), none⟩, .bool)]) <|
                .ret)
                (.skip)) <|
          .reg [(⟨(some 45), .move (.tmp 5), none⟩, (.int .i64)),
            (⟨(some 46), .bin .add (.tmp 45) (.const (.int .i64 1)), none⟩, (.int .i64)),
            (⟨(some 5), .move (.tmp 46), none⟩, (.int .i64))]) <|
  .seq (.seq (.reg [(⟨(some 73), .move (.tmp 3), none⟩, .ptr),
        (⟨(some 74), .nilCheck (.tmp 73), none⟩, .ptr),
        (⟨(some 75), .fieldAddr 4 (.tmp 74), none⟩, .ptr),
        (⟨(some 76), .load false 1 (.tmp 75), none⟩, .any),
        (⟨(some 77), .lenS (.tmp 76), none⟩, (.int .i64)),
        (⟨(some 78), .move (.const (.int .i64 0)), none⟩, (.int .i64))]) <|
    .block 4 <|
      .loop [(2, .bool), (78, (.int .i64))] <|
        .seq (.reg [(⟨(some 79), .bin .lss (.tmp 78) (.tmp 77), none⟩, .any)]) <|
        .seq (.cond (.tmp 79)
            (.skip)
            (.exit 4)) <|
        .seq (.cut [(2, .bool)] <|
            .block 5 <|
              .seq (.reg [(⟨(some 80), .idxSlice 2 (.tmp 76) (.tmp 78), none⟩, .ptr),
                  (⟨(some 81), .load true 2 (.tmp 80), none⟩, .any),
                  (⟨(some 9), .alloc [(.int .i64 0), .nilFunc], none⟩, .ptr),
                  (⟨none, .store 2 (.tmp 9) (.tmp 81), none⟩, .any)]) <|
              .seq (.reg [(⟨(some 82), .move (.const (.int .i64 0)), none⟩, (.int .i64))]) <|
              .block 6 <|
                .loop [(2, .bool), (82, (.int .i64))] <|
                  .seq (.reg [(⟨(some 83), .bin .lss (.tmp 82) (.const (.int .i64 2)), none⟩, .bool)]) <|
                  .seq (.cond (.tmp 83)
                      (.skip)
                      (.exit 6)) <|
                  .seq (.block 7 <|
                      .seq (.reg [(⟨(some 10), .alloc [(.slice none 0 0)], none⟩, .ptr)]) <|
                      .seq (.seq (.reg [(⟨(some 84), .fieldAddr 1 (.tmp 9), none⟩, .ptr),
                            (⟨(some 85), .load false 1 (.tmp 84), none⟩, (.fn k_ticket_Queue_All_1 1))]) <|
                        .block 8 <|
                          .range (.tmp 85) [86] []
                            (.reg [(⟨(some 11), .move (.tmp 86), none⟩, (.int .u64))])
                            (.block 9 <|
                              .reg [(⟨(some 87), .load false 1 (.tmp 10), none⟩, .any),
                                (⟨(some 88), .move (.tmp 11), none⟩, (.int .u64)),
                                (⟨(some 89), .buildSlice 1 1 [(.int .u64 0)] [(0, 1, (.tmp 88))], none⟩, .any),
                                (⟨(some 90), .append 8 1 (.tmp 87) (.tmp 89), none⟩, .any),
                                (⟨none, .store 1 (.tmp 10) (.tmp 90), none⟩, .any)])) <|
                      .seq (.regd [(⟨0, [], false, ⟨(some 91), .load false 1 (.tmp 10), none⟩⟩, .any),
                          (⟨1, [], false, ⟨(some 92), .move (.tmp 3), none⟩⟩, .ptr),
                          (⟨2, [], false, ⟨(some 93), .fieldAddr 0 (.tmp 9), none⟩⟩, .ptr),
                          (⟨3, [2], false, ⟨(some 94), .load false 1 (.tmp 93), none⟩⟩, (.int .i64)),
                          (⟨4, [1], false, ⟨(some 95), .nilCheck (.tmp 92), none⟩⟩, .ptr),
                          (⟨5, [4, 1], false, ⟨(some 96), .fieldAddr 2 (.tmp 95), none⟩⟩, .ptr),
                          (⟨6, [5, 3, 4, 1, 2], false, ⟨(some 97), .idxArr 2 1 (.tmp 96) (.tmp 94), none⟩⟩, .ptr),
                          (⟨7, [6, 5, 3, 4, 1, 2], false, ⟨(some 98), .load false 1 (.tmp 97), none⟩⟩, .ptr),
                          (⟨8, [7, 6, 5, 3, 4, 1, 2], false, ⟨(some 99), .nilCheck (.tmp 98), none⟩⟩, .ptr),
                          (⟨9, [8, 7, 6, 5, 3, 4, 1, 2], false, ⟨(some 100), .fieldAddr 0 (.tmp 99), none⟩⟩, .ptr),
                          (⟨10, [9, 8, 7, 6, 5, 3, 4, 1, 2], false, ⟨(some 101), .load false 1 (.tmp 100), none⟩⟩, .any),
                          (⟨11, [0, 10, 9, 8, 7, 6, 5, 3, 4, 1, 2], true, ⟨(some 102), .call k_wicketlaw11_same [(.tmp 91), (.tmp 101)], none⟩⟩, .bool),
                          (⟨12, [11, 0, 10, 9, 8, 7, 6, 5, 3, 4, 1, 2], false, ⟨(some 103), .un .not (.tmp 102), none⟩⟩, .bool)]) <|
                      .cond (.tmp 103)
                        (.seq (.reg [(⟨(some 2), .move (.const (.bool false)), none⟩, .bool)]) <|
                        .ret)
                        (.skip)) <|
                  .reg [(⟨(some 104), .bin .add (.tmp 82) (.const (.int .i64 1)), none⟩, (.int .i64)),
                    (⟨(some 82), .move (.tmp 104), none⟩, (.int .i64))]) <|
        .reg [(⟨(some 105), .bin .add (.tmp 78) (.const (.int .i64 1)), none⟩, (.int .i64)),
          (⟨(some 78), .move (.tmp 105), none⟩, (.int .i64))]) <|
  .seq (.reg [(⟨(some 2), .move (.const (.bool true)), none⟩, .bool)]) <|
  .ret
def f_wicketlaw11_TicketPlays_L22 (n : Nat) (u0 : Value) (h9 : Heap) (v14 : Bool) (v15 : Int) (h16 : Heap) : Option (((Bool × Int × Unit) × Heap) ⊕ (((Bool × Unit) × Heap) ⊕ ((Bool × Unit) × Heap))) :=
  (((lenB u0).bind fun n17 =>
    bif (decide (v15 < (n17 : Int))) then
      (some (((decide (v15 < 60)), ()), h16))
    else
      (some ((false, ()), h16))) : Option ((Bool × Unit) × Heap)).bind fun a18 =>
  bif a18.1.1 then
    ((ixB 4 u0 v15).bind fun q19 =>
    (ldA 4 a18.2 (some q19)).bind fun cs20 =>
    (f_wicketlaw11_pair_plays n (some (nwA h9)) (.agg ⟨cs20⟩) a18.2).bind fun p21 =>
    bif (!p21.1.1) then
      (some (.inr (.inr ((false, ()), p21.2))))
    else
      (some (.inl ((v14, ((IntKind.i64.wrap (v15 + 1)), ())), p21.2))))
  else
    (some (.inr (.inl ((v14, ()), a18.2))))
def f_wicketlaw11_TicketPlays_C23 (n : Nat) (u0 : Value) (h9 : Heap) (h13 : Heap) : Option (((Bool × Unit) × Heap) ⊕ ((Bool × Unit) × Heap)) :=
  loopT (fun a => f_wicketlaw11_TicketPlays_L22 n u0 h9 a.1.1 a.1.2.1 a.2) n ((false, (0, ())), h13)
def f_wicketlaw11_TicketPlays_L38 (n : Nat) (h9 : Heap) (v26 : Bool) (v27 : Int) (h28 : Heap) : Option (((Bool × Int × Unit) × Heap) ⊕ (((Bool × Unit) × Heap) ⊕ ((Bool × Unit) × Heap))) :=
  bif (decide (v27 < 2)) then
    ((ixA 2 1 (some (fa (nwA h9) 0)) v27).bind fun q29 =>
    (ldT .ptr h28 (some q29)).bind fun x30 =>
    (f_wicketlaw11_listed n x30 (-1) h28).bind fun p31 =>
    ((bif (!p31.1.2.1) then
        (some ((true, ()), p31.2))
      else
        ((ixA 2 1 (some (fa (nwA h9) 2)) v27).bind fun q32 =>
        (ldT .ptr p31.2 (some q32)).bind fun x33 =>
        (x33).bind fun q34 =>
        (ldT .any p31.2 (some (fa q34 0))).bind fun x35 =>
        (f_wicketlaw11_same n p31.1.1 x35 p31.2).bind fun p36 =>
        some (((!p36.1.1), ()), p36.2))) : Option ((Bool × Unit) × Heap)).bind fun a37 =>
    bif a37.1.1 then
      (some (.inr (.inr ((false, ()), a37.2))))
    else
      (some (.inl ((v26, ((IntKind.i64.wrap (v27 + 1)), ())), a37.2))))
  else
    (some (.inr (.inl ((v26, ()), h28))))
def f_wicketlaw11_TicketPlays_C39 (n : Nat) (h9 : Heap) (a24 : ((Bool × Unit) × Heap)) (h25 : Heap) : Option (((Bool × Unit) × Heap) ⊕ ((Bool × Unit) × Heap)) :=
  loopT (fun a => f_wicketlaw11_TicketPlays_L38 n h9 a.1.1 a.1.2.1 a.2) n ((a24.1.1, (0, ())), h25)
def f_wicketlaw11_TicketPlays_B63 (n : Nat) (h53 : Heap) (y56 : Int) (v57 : (Heap × Nat)) : Option (Bool × (Heap × Nat)) :=
  bif Nat.beq v57.2 0 then
    ((ldT .any v57.1 (some (nwA h53))).bind fun x58 =>
    (fillL [(.int .u64 0)] [(0, 1, (.int .u64 y56))]).bind fun cs59 =>
    bnd ((Heap.new v57.1 (.cells cs59 false 1))) fun h60 =>
    (appendK h60 8 1 x58 (.slice (some ⟨Heap.next v57.1, 0, some 0⟩) 1 1)).bind fun p61 =>
    (stB 1 p61.1 p61.2 (some (nwA h53))).bind fun h62 =>
    some (true, (h62, 0)))
  else none
def f_wicketlaw11_TicketPlays_L72 (n : Nat) (h : Heap) (h9 : Heap) (h46 : Heap) (v51 : Bool) (v52 : Int) (h53 : Heap) : Option (((Bool × Int × Unit) × Heap) ⊕ (((Bool × Unit) × Heap) ⊕ (((Bool × Int × Unit) × Heap) ⊕ ((Bool × Unit) × Heap)))) :=
  bif (decide (v52 < 2)) then
    (bnd ((Heap.new h53 (.cells [(.slice none 0 0)] false 0))) fun h54 =>
    (ldT (.fn k_ticket_Queue_All_1 1) h54 (some (fa (nwA h46) 1))).bind fun x55 =>
    (f_ticket_Queue_All_1 (V := (Heap × Nat)) (fun v => v.1) (fun v h => (h, v.2)) (fun a v => f_wicketlaw11_TicketPlays_B63 n h53 a.1 v) n x55.1 ((Heap.hole (Heap.hole h54)), 0)).bind fun v64 =>
    bif Nat.beq v64.2 0 then
      ((ldT .any v64.1 (some (nwA h53))).bind fun x65 =>
      (ldT (.int .i64) v64.1 (some (fa (nwA h46) 0))).bind fun x66 =>
      (ixA 2 1 (some (fa (nwA h9) 2)) x66).bind fun q67 =>
      (ldT .ptr v64.1 (some q67)).bind fun x68 =>
      (x68).bind fun q69 =>
      (ldT .any v64.1 (some (fa q69 0))).bind fun x70 =>
      (f_wicketlaw11_same n x65 x70 v64.1).bind fun p71 =>
      bif (!p71.1.1) then
        (some (.inr (.inr (.inr ((false, ()), p71.2)))))
      else
        (some (.inl ((v51, ((IntKind.i64.wrap (v52 + 1)), ())), p71.2))))
    else
      (none))
  else
    (some (.inr (.inl ((v51, ()), h53))))
def f_wicketlaw11_TicketPlays_C73 (n : Nat) (h : Heap) (h9 : Heap) (x41 : Value) (v44 : Int) (v43 : Bool) (h46 : Heap) : Option (((Bool × Unit) × Heap) ⊕ (((Bool × Int × Unit) × Heap) ⊕ ((Bool × Unit) × Heap))) :=
  (ixB 2 x41 v44).bind fun q47 =>
  (ldA 2 h46 (some q47)).bind fun cs48 =>
  bnd ((Heap.new h46 (.cells [(.int .i64 0), .nilFunc] false 0))) fun h49 =>
  (stB 2 (.agg ⟨cs48⟩) h49 (some (nwA h46))).bind fun h50 =>
  loopT (fun a => f_wicketlaw11_TicketPlays_L72 n h h9 h46 a.1.1 a.1.2.1 a.2) n ((v43, (0, ())), h50)
def f_wicketlaw11_TicketPlays_L75 (n : Nat) (h : Heap) (h9 : Heap) (x41 : Value) (n42 : Nat) (v43 : Bool) (v44 : Int) (h45 : Heap) : Option (((Bool × Int × Unit) × Heap) ⊕ ((Bool × Unit) × Heap)) :=
  bif (decide (v44 < (n42 : Int))) then
    (thenB (f_wicketlaw11_TicketPlays_C73 n h h9 x41 v44 v43 (h45)) fun a74 =>
    some (.inl ((a74.1.1, ((IntKind.i64.wrap (v44 + 1)), ())), a74.2)))
  else
    (some (.inr ((true, ()), h45)))
noncomputable def sf_wicketlaw11_TicketPlays (n : Nat) : Sf := sfOf [(k_wicketlaw11_awake, s_wicketlaw11_awake n), (k_wicketlaw11_pair_plays, s_wicketlaw11_pair_plays n), (k_wicketlaw11_listed, s_wicketlaw11_listed n), (k_wicketlaw11_same, s_wicketlaw11_same n)]
noncomputable def it_wicketlaw11_TicketPlays (n : Nat) : It := itOf [(k_ticket_Queue_All_1, i_ticket_Queue_All_1 n)]
def f_wicketlaw11_TicketPlays (n : Nat) (u0 : Value) (h : Heap) : Option ((Bool × Unit) × Heap) :=
  (f_wicketlaw11_awake n h).bind fun p0 =>
  bif (!p0.1.1) then
    (some ((false, ()), p0.2))
  else
    ((fillL [(.slice none 0 0), (.int .u64 0)] []).bind fun cs1 =>
    bif (cs1 : List Value).all isCell then
      (bnd ((Heap.new p0.2 (.cells cs1 false 0))) fun h2 =>
      (fillL [(.slice none 0 0), (.int .u64 0)] []).bind fun cs3 =>
      bif (cs3 : List Value).all isCell then
        (bnd ((Heap.new h2 (.cells cs3 false 0))) fun h4 =>
        (fillL [(.pointer none), (.pointer none)] [(0, 1, (.pointer (some (nwA p0.2)))), (1, 1, (.pointer (some (nwA h2))))]).bind fun cs5 =>
        (fillL [(.slice none 0 0), (.int .u64 0)] []).bind fun cs6 =>
        bif (cs6 : List Value).all isCell then
          (bnd ((Heap.new h4 (.cells cs6 false 0))) fun h7 =>
          (fillL [(.slice none 0 0), (.int .u64 0)] []).bind fun cs8 =>
          bif (cs8 : List Value).all isCell then
            (bnd ((Heap.new h7 (.cells cs8 false 0))) fun h9 =>
            (fillL [(.pointer none), (.pointer none)] [(0, 1, (.pointer (some (nwA h4)))), (1, 1, (.pointer (some (nwA h7))))]).bind fun cs10 =>
            (fillL [(.pointer none), (.pointer none), (.pointer none), (.pointer none), (.slice none 0 0)] [(0, 2, (.agg ⟨cs5⟩)), (2, 2, (.agg ⟨cs10⟩))]).bind fun cs11 =>
            bif (cs11 : List Value).all isCell then
              (bnd ((Heap.new h9 (.cells cs11 false 0))) fun h12 =>
              thenB (f_wicketlaw11_TicketPlays_C23 n u0 h9 (h12)) fun a24 =>
              thenB (f_wicketlaw11_TicketPlays_C39 n h9 a24 (a24.2)) fun a40 =>
              (ldT .any a40.2 (some (fa (nwA h9) 4))).bind fun x41 =>
              (lenB x41).bind fun n42 =>
              loopT (fun a => f_wicketlaw11_TicketPlays_L75 n h h9 x41 n42 a.1.1 a.1.2.1 a.2) n ((a40.1.1, (0, ())), a40.2))
            else
              (none))
          else
            (none))
        else
          (none))
      else
        (none))
    else
      (none))
def rs_wicketlaw11_TicketPlays : Rs := [(.tmp 2, .bool)]
def ps_wicketlaw11_TicketPlays : List Ty := [.any]
theorem e_wicketlaw11_TicketPlays (n : Nat) (u0 : Value) (h : Heap) : f_wicketlaw11_TicketPlays n u0 h = fB (sf_wicketlaw11_TicketPlays n) (it_wicketlaw11_TicketPlays n) n c2_wicketlaw11_TicketPlays rs_wicketlaw11_TicketPlays ps_wicketlaw11_TicketPlays (u0, ()) h := by kernel_rfl
noncomputable def s_wicketlaw11_TicketPlays (n : Nat) : Sf1 := mkSf ps_wicketlaw11_TicketPlays rs_wicketlaw11_TicketPlays fun a h => f_wicketlaw11_TicketPlays n a.1 h

/-- The table holds these. -/
structure LfT (T : Nat → Option AFun) : Prop where
  t_wicketlaw11_awake : PrimT_wicketlaw11_awake T
  t_wicketlaw11_same : T k_wicketlaw11_same = some ⟨List.map (·.1) rs_wicketlaw11_same, C2.erase c2_wicketlaw11_same, none⟩
  t_ticket_Queue_Put : T k_ticket_Queue_Put = some ⟨List.map (·.1) rs_ticket_Queue_Put, C2.erase c2_ticket_Queue_Put, none⟩
  t_wicketref11_Queue_Put : T k_wicketref11_Queue_Put = some ⟨List.map (·.1) rs_wicketref11_Queue_Put, C2.erase c2_wicketref11_Queue_Put, none⟩
  t_wicketref11_Queue_First : T k_wicketref11_Queue_First = some ⟨List.map (·.1) rs_wicketref11_Queue_First, C2.erase c2_wicketref11_Queue_First, none⟩
  t_ticket_Queue_Len : T k_ticket_Queue_Len = some ⟨List.map (·.1) rs_ticket_Queue_Len, C2.erase c2_ticket_Queue_Len, none⟩
  t_wicketref11_Queue_Place : T k_wicketref11_Queue_Place = some ⟨List.map (·.1) rs_wicketref11_Queue_Place, C2.erase c2_wicketref11_Queue_Place, none⟩
  t_wicketref11_Queue_Drop : T k_wicketref11_Queue_Drop = some ⟨List.map (·.1) rs_wicketref11_Queue_Drop, C2.erase c2_wicketref11_Queue_Drop, none⟩
  t_wicketref11_Queue_Copy : T k_wicketref11_Queue_Copy = some ⟨List.map (·.1) rs_wicketref11_Queue_Copy, C2.erase c2_wicketref11_Queue_Copy, none⟩
  t_slices_Delete_uint64_uint64 : T k_slices_Delete_uint64_uint64 = some ⟨List.map (·.1) rs_slices_Delete_uint64_uint64, C2.erase c2_slices_Delete_uint64_uint64, none⟩
  t_ticket_Queue_All_1 : T k_ticket_Queue_All_1 = some ⟨[], C2.erase c2_ticket_Queue_All_1, none⟩
  t_slices_Clone_uint64_uint64 : T k_slices_Clone_uint64_uint64 = some ⟨List.map (·.1) rs_slices_Clone_uint64_uint64, C2.erase c2_slices_Clone_uint64_uint64, none⟩
  t_ticket_Queue_First : T k_ticket_Queue_First = some ⟨List.map (·.1) rs_ticket_Queue_First, C2.erase c2_ticket_Queue_First, none⟩
  t_wicketref11_Queue_Take : T k_wicketref11_Queue_Take = some ⟨List.map (·.1) rs_wicketref11_Queue_Take, C2.erase c2_wicketref11_Queue_Take, none⟩
  t_ticket_Queue_All : T k_ticket_Queue_All = some ⟨List.map (·.1) rs_ticket_Queue_All, C2.erase c2_ticket_Queue_All, none⟩
  t_ticket_Queue_Copy : T k_ticket_Queue_Copy = some ⟨List.map (·.1) rs_ticket_Queue_Copy, C2.erase c2_ticket_Queue_Copy, none⟩
  t_wicketlaw11_listed : T k_wicketlaw11_listed = some ⟨List.map (·.1) rs_wicketlaw11_listed, C2.erase c2_wicketlaw11_listed, none⟩
  t_ticket_Queue_Take : T k_ticket_Queue_Take = some ⟨List.map (·.1) rs_ticket_Queue_Take, C2.erase c2_ticket_Queue_Take, none⟩
  t_ticket_Queue_Place : T k_ticket_Queue_Place = some ⟨List.map (·.1) rs_ticket_Queue_Place, C2.erase c2_ticket_Queue_Place, none⟩
  t_ticket_Queue_Drop : T k_ticket_Queue_Drop = some ⟨List.map (·.1) rs_ticket_Queue_Drop, C2.erase c2_ticket_Queue_Drop, none⟩
  t_wicketlaw11_pair_plays : T k_wicketlaw11_pair_plays = some ⟨List.map (·.1) rs_wicketlaw11_pair_plays, C2.erase c2_wicketlaw11_pair_plays, none⟩
  t_wicketlaw11_TicketPlays : T k_wicketlaw11_TicketPlays = some ⟨List.map (·.1) rs_wicketlaw11_TicketPlays, C2.erase c2_wicketlaw11_TicketPlays, none⟩
variable {T : Nat → Option AFun}
theorem ok_wicketlaw11_awake (hT : LfT T) (n : Nat) : Sf1Ok T k_wicketlaw11_awake (s_wicketlaw11_awake n) := primOk_wicketlaw11_awake hT.t_wicketlaw11_awake n
theorem ok_wicketlaw11_same (hT : LfT T) (n : Nat) : Sf1Ok T k_wicketlaw11_same (s_wicketlaw11_same n) := mkSf_ok (sf := sf_wicketlaw11_same n) (it := it_wicketlaw11_same n) (n := n) hT.t_wicketlaw11_same sfOk_nil itOk_nil fun a h => e_wicketlaw11_same n a.1 a.2.1 h
theorem ok_ticket_Queue_Put (hT : LfT T) (n : Nat) : Sf1Ok T k_ticket_Queue_Put (s_ticket_Queue_Put n) := mkSf_ok (sf := sf_ticket_Queue_Put n) (it := it_ticket_Queue_Put n) (n := n) hT.t_ticket_Queue_Put sfOk_nil itOk_nil fun a h => e_ticket_Queue_Put n a.1 a.2.1 h
theorem ok_wicketref11_Queue_Put (hT : LfT T) (n : Nat) : Sf1Ok T k_wicketref11_Queue_Put (s_wicketref11_Queue_Put n) := mkSf_ok (sf := sf_wicketref11_Queue_Put n) (it := it_wicketref11_Queue_Put n) (n := n) hT.t_wicketref11_Queue_Put sfOk_nil itOk_nil fun a h => e_wicketref11_Queue_Put n a.1 a.2.1 h
theorem ok_wicketref11_Queue_First (hT : LfT T) (n : Nat) : Sf1Ok T k_wicketref11_Queue_First (s_wicketref11_Queue_First n) := mkSf_ok (sf := sf_wicketref11_Queue_First n) (it := it_wicketref11_Queue_First n) (n := n) hT.t_wicketref11_Queue_First sfOk_nil itOk_nil fun a h => e_wicketref11_Queue_First n a.1 h
theorem ok_ticket_Queue_Len (hT : LfT T) (n : Nat) : Sf1Ok T k_ticket_Queue_Len (s_ticket_Queue_Len n) := mkSf_ok (sf := sf_ticket_Queue_Len n) (it := it_ticket_Queue_Len n) (n := n) hT.t_ticket_Queue_Len sfOk_nil itOk_nil fun a h => e_ticket_Queue_Len n a.1 h
theorem ok_wicketref11_Queue_Place (hT : LfT T) (n : Nat) : Sf1Ok T k_wicketref11_Queue_Place (s_wicketref11_Queue_Place n) := mkSf_ok (sf := sf_wicketref11_Queue_Place n) (it := it_wicketref11_Queue_Place n) (n := n) hT.t_wicketref11_Queue_Place sfOk_nil itOk_nil fun a h => e_wicketref11_Queue_Place n a.1 a.2.1 h
theorem ok_wicketref11_Queue_Drop (hT : LfT T) (n : Nat) : Sf1Ok T k_wicketref11_Queue_Drop (s_wicketref11_Queue_Drop n) := mkSf_ok (sf := sf_wicketref11_Queue_Drop n) (it := it_wicketref11_Queue_Drop n) (n := n) hT.t_wicketref11_Queue_Drop sfOk_nil itOk_nil fun a h => e_wicketref11_Queue_Drop n a.1 a.2.1 h
theorem ok_wicketref11_Queue_Copy (hT : LfT T) (n : Nat) : Sf1Ok T k_wicketref11_Queue_Copy (s_wicketref11_Queue_Copy n) := mkSf_ok (sf := sf_wicketref11_Queue_Copy n) (it := it_wicketref11_Queue_Copy n) (n := n) hT.t_wicketref11_Queue_Copy sfOk_nil itOk_nil fun a h => e_wicketref11_Queue_Copy n a.1 h
theorem ok_slices_Delete_uint64_uint64 (hT : LfT T) (n : Nat) : Sf1Ok T k_slices_Delete_uint64_uint64 (s_slices_Delete_uint64_uint64 n) := mkSf_ok (sf := sf_slices_Delete_uint64_uint64 n) (it := it_slices_Delete_uint64_uint64 n) (n := n) hT.t_slices_Delete_uint64_uint64 sfOk_nil itOk_nil fun a h => e_slices_Delete_uint64_uint64 n a.1 a.2.1 a.2.2.1 h
theorem ok_ticket_Queue_All_1 (hT : LfT T) (n : Nat) : It1Ok T k_ticket_Queue_All_1 (i_ticket_Queue_All_1 n) := mkIt_ok (sf := sf_ticket_Queue_All_1 n) (it := it_ticket_Queue_All_1 n) (n := n) hT.t_ticket_Queue_All_1 sfOk_nil itOk_nil fun V hp up y a1 a2 v => e_ticket_Queue_All_1 hp up y n a2.1 v
theorem ok_slices_Clone_uint64_uint64 (hT : LfT T) (n : Nat) : Sf1Ok T k_slices_Clone_uint64_uint64 (s_slices_Clone_uint64_uint64 n) := mkSf_ok (sf := sf_slices_Clone_uint64_uint64 n) (it := it_slices_Clone_uint64_uint64 n) (n := n) hT.t_slices_Clone_uint64_uint64 sfOk_nil itOk_nil fun a h => e_slices_Clone_uint64_uint64 n a.1 h
theorem ok_ticket_Queue_First (hT : LfT T) (n : Nat) : Sf1Ok T k_ticket_Queue_First (s_ticket_Queue_First n) := mkSf_ok (sf := sf_ticket_Queue_First n) (it := it_ticket_Queue_First n) (n := n) hT.t_ticket_Queue_First (sfOk_cons (ok_ticket_Queue_Len hT n) sfOk_nil) itOk_nil fun a h => e_ticket_Queue_First n a.1 h
theorem ok_wicketref11_Queue_Take (hT : LfT T) (n : Nat) : Sf1Ok T k_wicketref11_Queue_Take (s_wicketref11_Queue_Take n) := mkSf_ok (sf := sf_wicketref11_Queue_Take n) (it := it_wicketref11_Queue_Take n) (n := n) hT.t_wicketref11_Queue_Take (sfOk_cons (ok_wicketref11_Queue_First hT n) (sfOk_cons (ok_wicketref11_Queue_Drop hT n) sfOk_nil)) itOk_nil fun a h => e_wicketref11_Queue_Take n a.1 h
theorem ok_ticket_Queue_All (hT : LfT T) (n : Nat) : Sf1Ok T k_ticket_Queue_All (s_ticket_Queue_All n) := mkSf_ok (sf := sf_ticket_Queue_All n) (it := it_ticket_Queue_All n) (n := n) hT.t_ticket_Queue_All sfOk_nil itOk_nil fun a h => e_ticket_Queue_All n a.1 h
theorem ok_ticket_Queue_Copy (hT : LfT T) (n : Nat) : Sf1Ok T k_ticket_Queue_Copy (s_ticket_Queue_Copy n) := mkSf_ok (sf := sf_ticket_Queue_Copy n) (it := it_ticket_Queue_Copy n) (n := n) hT.t_ticket_Queue_Copy (sfOk_cons (ok_slices_Clone_uint64_uint64 hT n) sfOk_nil) itOk_nil fun a h => e_ticket_Queue_Copy n a.1 h
theorem ok_wicketlaw11_listed (hT : LfT T) (n : Nat) : Sf1Ok T k_wicketlaw11_listed (s_wicketlaw11_listed n) := mkSf_ok (sf := sf_wicketlaw11_listed n) (it := it_wicketlaw11_listed n) (n := n) hT.t_wicketlaw11_listed (sfOk_cons (ok_ticket_Queue_All hT n) sfOk_nil) (itOk_cons (ok_ticket_Queue_All_1 hT n) itOk_nil) fun a h => e_wicketlaw11_listed n a.1 a.2.1 h
theorem ok_ticket_Queue_Take (hT : LfT T) (n : Nat) : Sf1Ok T k_ticket_Queue_Take (s_ticket_Queue_Take n) := mkSf_ok (sf := sf_ticket_Queue_Take n) (it := it_ticket_Queue_Take n) (n := n) hT.t_ticket_Queue_Take (sfOk_cons (ok_ticket_Queue_First hT n) (sfOk_cons (ok_slices_Delete_uint64_uint64 hT n) sfOk_nil)) itOk_nil fun a h => e_ticket_Queue_Take n a.1 h
theorem ok_ticket_Queue_Place (hT : LfT T) (n : Nat) : Sf1Ok T k_ticket_Queue_Place (s_ticket_Queue_Place n) := mkSf_ok (sf := sf_ticket_Queue_Place n) (it := it_ticket_Queue_Place n) (n := n) hT.t_ticket_Queue_Place (sfOk_cons (ok_ticket_Queue_All hT n) sfOk_nil) (itOk_cons (ok_ticket_Queue_All_1 hT n) itOk_nil) fun a h => e_ticket_Queue_Place n a.1 a.2.1 h
theorem ok_ticket_Queue_Drop (hT : LfT T) (n : Nat) : Sf1Ok T k_ticket_Queue_Drop (s_ticket_Queue_Drop n) := mkSf_ok (sf := sf_ticket_Queue_Drop n) (it := it_ticket_Queue_Drop n) (n := n) hT.t_ticket_Queue_Drop (sfOk_cons (ok_ticket_Queue_Place hT n) (sfOk_cons (ok_slices_Delete_uint64_uint64 hT n) sfOk_nil)) itOk_nil fun a h => e_ticket_Queue_Drop n a.1 a.2.1 h
theorem ok_wicketlaw11_pair_plays (hT : LfT T) (n : Nat) : Sf1Ok T k_wicketlaw11_pair_plays (s_wicketlaw11_pair_plays n) := mkSf_ok (sf := sf_wicketlaw11_pair_plays n) (it := it_wicketlaw11_pair_plays n) (n := n) hT.t_wicketlaw11_pair_plays (sfOk_cons (ok_ticket_Queue_Put hT n) (sfOk_cons (ok_wicketref11_Queue_Put hT n) (sfOk_cons (ok_ticket_Queue_First hT n) (sfOk_cons (ok_wicketref11_Queue_First hT n) (sfOk_cons (ok_ticket_Queue_Len hT n) (sfOk_cons (ok_ticket_Queue_Place hT n) (sfOk_cons (ok_wicketref11_Queue_Place hT n) (sfOk_cons (ok_ticket_Queue_Take hT n) (sfOk_cons (ok_wicketref11_Queue_Take hT n) (sfOk_cons (ok_ticket_Queue_Drop hT n) (sfOk_cons (ok_wicketref11_Queue_Drop hT n) (sfOk_cons (ok_wicketlaw11_listed hT n) (sfOk_cons (ok_wicketlaw11_same hT n) (sfOk_cons (ok_ticket_Queue_All hT n) (sfOk_cons (ok_ticket_Queue_Copy hT n) (sfOk_cons (ok_wicketref11_Queue_Copy hT n) sfOk_nil)))))))))))))))) itOk_nil fun a h => e_wicketlaw11_pair_plays n a.1 a.2.1 h
theorem ok_wicketlaw11_TicketPlays (hT : LfT T) (n : Nat) : Sf1Ok T k_wicketlaw11_TicketPlays (s_wicketlaw11_TicketPlays n) := mkSf_ok (sf := sf_wicketlaw11_TicketPlays n) (it := it_wicketlaw11_TicketPlays n) (n := n) hT.t_wicketlaw11_TicketPlays (sfOk_cons (ok_wicketlaw11_awake hT n) (sfOk_cons (ok_wicketlaw11_pair_plays hT n) (sfOk_cons (ok_wicketlaw11_listed hT n) (sfOk_cons (ok_wicketlaw11_same hT n) sfOk_nil)))) (itOk_cons (ok_ticket_Queue_All_1 hT n) itOk_nil) fun a h => e_wicketlaw11_TicketPlays n a.1 h
end Go.Proofs.Ytpcmjoghflllfaa
