/- The functions at hand as plain typed functions, each with the proof that it is what the abstract machine's code does. -/
import Derived.Test.YtnfmkiccpjfifaaB9
import Derived.KernelRfl
namespace Go.Proofs.Ytnfmkiccpjfifaa
open Go
set_option linter.unusedVariables false
set_option maxRecDepth 100000
def k_wicketlaw17_fixed : Nat := 4
def k_cache_New : Nat := 5
def k_wicketlaw17_rising : Nat := 7
def k_wicketlaw17_value : Nat := 8
def k_cache_Cache_Put : Nat := 9
def k_cache_Cache_Get : Nat := 10
def k_cache_Cache_Copy : Nat := 11
def k_cache_Cache_Drop : Nat := 12
def k_cache_Cache_Last : Nat := 14
def k_wicketlaw17_plain : Nat := 17
def k_cache_Cache_All_1 : Nat := 18
def k_cache_Cache_All : Nat := 16
def k_cache_Cache_Entries : Nat := 6
def k_cache_Cache_Len : Nat := 13
def k_wicketlaw17_given : Nat := 15
def k_wicketlaw17_CacheDrops : Nat := 3

def f_wicketlaw17_fixed (n : Nat) (h : Heap) : Option ((Bool × Unit) × Heap) := yesB h
noncomputable def s_wicketlaw17_fixed (n : Nat) : Sf1 := mkSf [] [(.tmp 0, .bool)] fun a h => f_wicketlaw17_fixed n h
def PrimT_wicketlaw17_fixed (T : Nat → Option AFun) : Prop := T k_wicketlaw17_fixed = some ⟨[], .skip, some yes⟩
theorem primOk_wicketlaw17_fixed {T : Nat → Option AFun} (hT : PrimT_wicketlaw17_fixed T) (n : Nat) : Sf1Ok T k_wicketlaw17_fixed (s_wicketlaw17_fixed n) := yes_sf hT

/- wicket/cache.New -/
def c2_cache_New : C2 :=
  .seq (.reg [(⟨(some 2), .move (.const (.pointer none)), none⟩, .ptr),
      (⟨(some 3), .move (.const (.int .i64 0)), none⟩, (.int .i64))]) <|
  .seq (.seq (.cutn [(9, .bool)] <|
        .reg [(⟨(some 4), .move (.tmp 0), none⟩, (.int .i64)),
          (⟨(some 5), .bin .lss (.tmp 4) (.const (.int .i64 1)), none⟩, .bool),
          (⟨(some 6), .move (.tmp 5), none⟩, .bool),
          (⟨(some 7), .move (.tmp 0), some (6, false)⟩, (.int .i64)),
          (⟨(some 8), .bin .gtr (.tmp 7) (.const (.int .i64 64)), some (6, false)⟩, .bool),
          (⟨(some 9), .pick (.tmp 6) (.const (.bool true)) (.tmp 8), none⟩, .bool)]) <|
    .cond (.tmp 9)
      (.seq (.reg [(⟨(some 2), .move (.const (.pointer none)), none⟩, .ptr),
          (⟨(some 3), .move (.const (.int .i64 2)), none⟩, (.int .i64))]) <|
      .ret)
      (.skip)) <|
  .seq (.regd [(⟨0, [], false, ⟨(some 10), .move (.tmp 0), none⟩⟩, (.int .i64)),
      (⟨1, [0], false, ⟨(some 11), .makeSlice 48 34 [(.int .i64 0), (.int .u8 0), (.int .u8 0), (.int .u8 0), (.int .u8 0), (.int .u8 0), (.int .u8 0), (.int .u8 0), (.int .u8 0), (.int .u8 0), (.int .u8 0), (.int .u8 0), (.int .u8 0), (.int .u8 0), (.int .u8 0), (.int .u8 0), (.int .u8 0), (.int .u8 0), (.int .u8 0), (.int .u8 0), (.int .u8 0), (.int .u8 0), (.int .u8 0), (.int .u8 0), (.int .u8 0), (.int .u8 0), (.int .u8 0), (.int .u8 0), (.int .u8 0), (.int .u8 0), (.int .u8 0), (.int .u8 0), (.int .u8 0), (.int .u64 0)] (.tmp 10) (.tmp 10), none⟩⟩, .any),
      (⟨2, [], false, ⟨(some 12), .move (.tmp 0), none⟩⟩, (.int .i64)),
      (⟨3, [2], false, ⟨(some 13), .makeSlice 1 1 [(.bool false)] (.tmp 12) (.tmp 12), none⟩⟩, .any),
      (⟨4, [1, 3, 0, 2], false, ⟨(some 14), .build [(.slice none 0 0), (.slice none 0 0), (.int .u64 0), (.bool false)] [(0, 1, (.tmp 11)), (1, 1, (.tmp 13))], none⟩⟩, .any),
      (⟨5, [4, 1, 3, 0, 2], false, ⟨(some 15), .box (.tmp 14), none⟩⟩, .ptr),
      (⟨6, [5, 0, 1, 2, 3, 4], false, ⟨(some 2), .move (.tmp 15), none⟩⟩, .ptr),
      (⟨7, [6, 0, 1, 2, 3, 4, 5], false, ⟨(some 3), .move (.const (.int .i64 0)), none⟩⟩, (.int .i64))]) <|
  .ret
noncomputable def sf_cache_New (n : Nat) : Sf := sfOf []
noncomputable def it_cache_New (n : Nat) : It := itOf []
def f_cache_New (n : Nat) (u0 : Int) (h : Heap) : Option ((Option Addr × Int × Unit) × Heap) :=
  ((bif (decide (u0 < 1)) then
      (some ((true, ()), h))
    else
      (some (((decide (64 < u0)), ()), h))) : Option ((Bool × Unit) × Heap)).bind fun a0 =>
  bif a0.1.1 then
    (some ((none, (2, ())), a0.2))
  else
    ((mkSl (Heap.next a0.2) 48 34 [(.int .i64 0), (.int .u8 0), (.int .u8 0), (.int .u8 0), (.int .u8 0), (.int .u8 0), (.int .u8 0), (.int .u8 0), (.int .u8 0), (.int .u8 0), (.int .u8 0), (.int .u8 0), (.int .u8 0), (.int .u8 0), (.int .u8 0), (.int .u8 0), (.int .u8 0), (.int .u8 0), (.int .u8 0), (.int .u8 0), (.int .u8 0), (.int .u8 0), (.int .u8 0), (.int .u8 0), (.int .u8 0), (.int .u8 0), (.int .u8 0), (.int .u8 0), (.int .u8 0), (.int .u8 0), (.int .u8 0), (.int .u8 0), (.int .u8 0), (.int .u64 0)] (.int .i64 u0) (.int .i64 u0)).bind fun p1 =>
    bnd ((Heap.new a0.2 (p1.2))) fun h2 =>
    (mkSl (Heap.next h2) 1 1 [(.bool false)] (.int .i64 u0) (.int .i64 u0)).bind fun p3 =>
    bnd ((Heap.new h2 (p3.2))) fun h4 =>
    (fillL [(.slice none 0 0), (.slice none 0 0), (.int .u64 0), (.bool false)] [(0, 1, p1.1), (1, 1, p3.1)]).bind fun cs5 =>
    bif (cs5 : List Value).all isCell then
      (bnd ((Heap.new h4 (.cells cs5 false 0))) fun h6 =>
      some (((some (nwA h4)), (0, ())), h6))
    else
      (none))
def rs_cache_New : Rs := [(.tmp 2, .ptr), (.tmp 3, (.int .i64))]
def ps_cache_New : List Ty := [(.int .i64)]
theorem e_cache_New (n : Nat) (u0 : Int) (h : Heap) : f_cache_New n u0 h = fB (sf_cache_New n) (it_cache_New n) n c2_cache_New rs_cache_New ps_cache_New (u0, ()) h := by kernel_rfl
noncomputable def s_cache_New (n : Nat) : Sf1 := mkSf ps_cache_New rs_cache_New fun a h => f_cache_New n a.1 h

/- wicket/wicketlaw17.rising -/
def c2_wicketlaw17_rising : C2 :=
  .seq (.reg [(⟨(some 4), .move (.const (.slice none 0 0)), none⟩, .any)]) <|
  .seq (.reg [(⟨(some 5), .move (.const (.slice none 0 0)), none⟩, .any)]) <|
  .seq (.seq (.reg [(⟨(some 6), .move (.const (.int .i64 0)), none⟩, (.int .i64))]) <|
    .block 0 <|
      .loop [(5, .any), (6, (.int .i64))] <|
        .seq (.seq (.reg [(⟨(some 8), .move (.tmp 6), none⟩, (.int .i64)),
              (⟨(some 9), .move (.tmp 1), none⟩, (.int .i64)),
              (⟨(some 10), .bin .lss (.tmp 8) (.tmp 9), none⟩, .bool)]) <|
          .cond (.tmp 10)
            (.skip)
            (.exit 0)) <|
        .seq (.cutn [(5, .any)] <|
            .block 1 <|
              .seq (.reg [(⟨(some 7), .move (.const (.int .i64 0)), none⟩, (.int .i64))]) <|
              .block 2 <|
                .loop [(5, .any), (7, (.int .i64))] <|
                  .seq (.seq (.reg [(⟨(some 13), .move (.tmp 7), none⟩, (.int .i64)),
                        (⟨(some 14), .move (.tmp 0), none⟩, .any),
                        (⟨(some 15), .lenS (.tmp 14), none⟩, (.int .i64)),
                        (⟨(some 16), .bin .lss (.tmp 13) (.tmp 15), none⟩, .bool)]) <|
                    .cond (.tmp 16)
                      (.skip)
                      (.exit 2)) <|
                  .seq (.block 3 <|
                      .seq (.reg [(⟨(some 19), .move (.tmp 0), none⟩, .any),
                          (⟨(some 20), .move (.tmp 7), none⟩, (.int .i64)),
                          (⟨(some 21), .idxSlice 1 (.tmp 19) (.tmp 20), none⟩, .ptr),
                          (⟨(some 22), .load false 1 (.tmp 21), none⟩, (.int .i64)),
                          (⟨(some 23), .move (.tmp 1), none⟩, (.int .i64)),
                          (⟨(some 24), .bin .rem (.tmp 22) (.tmp 23), none⟩, (.int .i64)),
                          (⟨(some 25), .move (.tmp 1), none⟩, (.int .i64)),
                          (⟨(some 26), .bin .add (.tmp 24) (.tmp 25), none⟩, (.int .i64)),
                          (⟨(some 27), .move (.tmp 1), none⟩, (.int .i64)),
                          (⟨(some 28), .bin .rem (.tmp 26) (.tmp 27), none⟩, (.int .i64)),
                          (⟨(some 29), .move (.tmp 6), none⟩, (.int .i64)),
                          (⟨(some 30), .bin .eql (.tmp 28) (.tmp 29), none⟩, .bool)]) <|
                      .cond (.tmp 30)
                        (.seq (.reg [(⟨(some 31), .move (.tmp 5), none⟩, .any),
                            (⟨(some 32), .move (.tmp 6), none⟩, (.int .i64)),
                            (⟨(some 33), .buildSlice 1 1 [(.int .i64 0)] [(0, 1, (.tmp 32))], none⟩, .any),
                            (⟨(some 34), .append 8 1 (.tmp 31) (.tmp 33), none⟩, .any),
                            (⟨(some 5), .move (.tmp 34), none⟩, .any)]) <|
                        .exit 2)
                        (.skip)) <|
                  .reg [(⟨(some 17), .move (.tmp 7), none⟩, (.int .i64)),
                    (⟨(some 18), .bin .add (.tmp 17) (.const (.int .i64 1)), none⟩, (.int .i64)),
                    (⟨(some 7), .move (.tmp 18), none⟩, (.int .i64))]) <|
        .reg [(⟨(some 11), .move (.tmp 6), none⟩, (.int .i64)),
          (⟨(some 12), .bin .add (.tmp 11) (.const (.int .i64 1)), none⟩, (.int .i64)),
          (⟨(some 6), .move (.tmp 12), none⟩, (.int .i64))]) <|
  .seq (.reg [(⟨(some 35), .move (.tmp 5), none⟩, .any),
      (⟨(some 4), .move (.tmp 35), none⟩, .any)]) <|
  .ret
def f_wicketlaw17_rising_L12 (n : Nat) (u1 : Int) (u0 : Value) (v1 : Int) (v3 : Value) (v4 : Int) (h5 : Heap) : Option (((Value × Int × Unit) × Heap) ⊕ ((Value × Unit) × Heap)) :=
  (lenB u0).bind fun n6 =>
  bif (decide (v4 < (n6 : Int))) then
    ((ixB 1 u0 v4).bind fun q7 =>
    (ldT (.int .i64) h5 (some q7)).bind fun x8 =>
    bif decide (u1 = 0) then
      (none)
    else
      (bif decide (u1 = 0) then
        (none)
      else
        (bif (decide ((Int.tmod (IntKind.i64.wrap ((Int.tmod x8 u1) + u1)) u1) = v1)) then
          ((fillL [(.int .i64 0)] [(0, 1, (.int .i64 v1))]).bind fun cs9 =>
          bnd ((Heap.new h5 (.cells cs9 false 1))) fun h10 =>
          (appendK h10 8 1 v3 (.slice (some ⟨Heap.next h5, 0, some 0⟩) 1 1)).bind fun p11 =>
          some (.inr ((p11.1, ()), p11.2)))
        else
          (some (.inl ((v3, ((IntKind.i64.wrap (v4 + 1)), ())), h5))))))
  else
    (some (.inr ((v3, ()), h5)))
def f_wicketlaw17_rising_L14 (n : Nat) (u1 : Int) (u0 : Value) (v0 : Value) (v1 : Int) (h2 : Heap) : Option (((Value × Int × Unit) × Heap) ⊕ ((Value × Unit) × Heap)) :=
  bif (decide (v1 < u1)) then
    (((loopT (fun a => f_wicketlaw17_rising_L12 n u1 u0 v1 a.1.1 a.1.2.1 a.2) n ((v0, (0, ())), h2)) : Option ((Value × Unit) × Heap)).bind fun a13 =>
    some (.inl ((a13.1.1, ((IntKind.i64.wrap (v1 + 1)), ())), a13.2)))
  else
    (Option.map Sum.inr (bif !isTuple v0 then
      (some ((v0, ()), h2))
    else
      (none)))
noncomputable def sf_wicketlaw17_rising (n : Nat) : Sf := sfOf []
noncomputable def it_wicketlaw17_rising (n : Nat) : It := itOf []
def f_wicketlaw17_rising (n : Nat) (u0 : Value) (u1 : Int) (h : Heap) : Option ((Value × Unit) × Heap) :=
  loopT (fun a => f_wicketlaw17_rising_L14 n u1 u0 a.1.1 a.1.2.1 a.2) n (((.slice none 0 0), (0, ())), h)
def rs_wicketlaw17_rising : Rs := [(.tmp 4, .any)]
def ps_wicketlaw17_rising : List Ty := [.any, (.int .i64)]
theorem e_wicketlaw17_rising (n : Nat) (u0 : Value) (u1 : Int) (h : Heap) : f_wicketlaw17_rising n u0 u1 h = fB (sf_wicketlaw17_rising n) (it_wicketlaw17_rising n) n c2_wicketlaw17_rising rs_wicketlaw17_rising ps_wicketlaw17_rising (u0, (u1, ())) h := by kernel_rfl
noncomputable def s_wicketlaw17_rising (n : Nat) : Sf1 := mkSf ps_wicketlaw17_rising rs_wicketlaw17_rising fun a h => f_wicketlaw17_rising n a.1 a.2.1 h

/- wicket/wicketlaw17.value -/
def c2_wicketlaw17_value : C2 :=
  .seq (.reg [(⟨(some 4), .alloc (List.replicate 32 (.int .u8 0)), none⟩, .ptr)]) <|
  .seq (.reg [(⟨(some 5), .move (.tmp 0), none⟩, (.int .u8)),
      (⟨(some 6), .move (.tmp 1), none⟩, (.int .i64)),
      (⟨(some 7), .conv .u8 (.tmp 6), none⟩, (.int .u8)),
      (⟨(some 8), .build (List.replicate 32 (.int .u8 0)) [(0, 1, (.tmp 5)), (1, 1, (.tmp 7)), (2, 1, (.const (.int .u8 1)))], none⟩, .any),
      (⟨none, .store 32 (.tmp 4) (.tmp 8), none⟩, .any)]) <|
  .ret
noncomputable def sf_wicketlaw17_value (n : Nat) : Sf := sfOf []
noncomputable def it_wicketlaw17_value (n : Nat) : It := itOf []
def f_wicketlaw17_value (n : Nat) (u0 : Int) (u1 : Int) (h : Heap) : Option ((Value × Unit) × Heap) :=
  bnd ((Heap.new h (.cells (List.replicate 32 (.int .u8 0)) false 0))) fun h0 =>
  (fillL (List.replicate 32 (.int .u8 0)) [(0, 1, (.int .u8 u0)), (1, 1, (.int .u8 (IntKind.u8.wrap (u1)))), (2, 1, (.int .u8 1))]).bind fun cs1 =>
  (stB 32 (.agg ⟨cs1⟩) h0 (some (nwA h))).bind fun h2 =>
  (ldA 32 h2 (some (nwA h))).bind fun cs3 =>
  some (((.agg ⟨cs3⟩), ()), h2)
def rs_wicketlaw17_value : Rs := [(.cell true 32 4, .any)]
def ps_wicketlaw17_value : List Ty := [(.int .u8), (.int .i64)]
theorem e_wicketlaw17_value (n : Nat) (u0 : Int) (u1 : Int) (h : Heap) : f_wicketlaw17_value n u0 u1 h = fB (sf_wicketlaw17_value n) (it_wicketlaw17_value n) n c2_wicketlaw17_value rs_wicketlaw17_value ps_wicketlaw17_value (u0, (u1, ())) h := by kernel_rfl
noncomputable def s_wicketlaw17_value (n : Nat) : Sf1 := mkSf ps_wicketlaw17_value rs_wicketlaw17_value fun a h => f_wicketlaw17_value n a.1 a.2.1 h

/- (*wicket/cache.Cache).Put -/
def c2_cache_Cache_Put : C2 :=
  .seq (.reg [(⟨(some 6), .move (.const (.int .i64 0)), none⟩, (.int .i64))]) <|
  .seq (.seq (.reg [(⟨(some 12), .move (.tmp 0), none⟩, .ptr),
        (⟨(some 13), .eqv false .ptr (.tmp 12) (.const (.pointer none)), none⟩, .bool)]) <|
    .cond (.tmp 13)
      (.seq (.reg [(⟨(some 6), .move (.const (.int .i64 1)), none⟩, (.int .i64))]) <|
      .ret)
      (.skip)) <|
  .seq (.cut [] <|
      .seq (.reg [(⟨(some 14), .move (.tmp 1), none⟩, .any),
          (⟨(some 15), .lenS (.tmp 14), none⟩, (.int .i64)),
          (⟨(some 16), .move (.const (.int .i64 0)), none⟩, (.int .i64))]) <|
      .block 0 <|
        .loop [(16, (.int .i64))] <|
          .seq (.reg [(⟨(some 17), .bin .lss (.tmp 16) (.tmp 15), none⟩, .any)]) <|
          .seq (.cond (.tmp 17)
              (.skip)
              (.exit 0)) <|
          .seq (.block 1 <|
              .seq (.reg [(⟨(some 18), .idxSlice 33 (.tmp 14) (.tmp 16), none⟩, .ptr),
                  (⟨(some 19), .load true 33 (.tmp 18), none⟩, .any),
                  (⟨(some 8), .alloc [(.int .i64 0), (.int .u8 0), (.int .u8 0), (.int .u8 0), (.int .u8 0), (.int .u8 0), (.int .u8 0), (.int .u8 0), (.int .u8 0), (.int .u8 0), (.int .u8 0), (.int .u8 0), (.int .u8 0), (.int .u8 0), (.int .u8 0), (.int .u8 0), (.int .u8 0), (.int .u8 0), (.int .u8 0), (.int .u8 0), (.int .u8 0), (.int .u8 0), (.int .u8 0), (.int .u8 0), (.int .u8 0), (.int .u8 0), (.int .u8 0), (.int .u8 0), (.int .u8 0), (.int .u8 0), (.int .u8 0), (.int .u8 0), (.int .u8 0)], none⟩, .ptr),
                  (⟨none, .store 33 (.tmp 8) (.tmp 19), none⟩, .any)]) <|
              .seq (.cutn [(32, .bool)] <|
                  .regd [(⟨0, [], false, ⟨(some 20), .fieldAddr 0 (.tmp 8), none⟩⟩, .ptr),
                    (⟨1, [0], false, ⟨(some 21), .load false 1 (.tmp 20), none⟩⟩, (.int .i64)),
                    (⟨2, [1, 0], false, ⟨(some 22), .bin .lss (.tmp 21) (.const (.int .i64 0)), none⟩⟩, .bool),
                    (⟨3, [2, 1, 0], false, ⟨(some 23), .move (.tmp 22), none⟩⟩, .bool),
                    (⟨4, [3, 2, 1, 0], false, ⟨(some 24), .fieldAddr 0 (.tmp 8), some (23, false)⟩⟩, .ptr),
                    (⟨5, [4, 3, 2, 1, 0], false, ⟨(some 25), .load false 1 (.tmp 24), some (23, false)⟩⟩, (.int .i64)),
                    (⟨6, [3, 2, 1, 0], false, ⟨(some 26), .move (.tmp 0), some (23, false)⟩⟩, .ptr),
                    (⟨7, [6, 3, 2, 1, 0], false, ⟨(some 27), .nilCheck (.tmp 26), some (23, false)⟩⟩, .ptr),
                    (⟨8, [7, 3, 6, 2, 1, 0], false, ⟨(some 28), .fieldAddr 0 (.tmp 27), some (23, false)⟩⟩, .ptr),
                    (⟨9, [8, 3, 7, 6, 2, 1, 0], false, ⟨(some 29), .load false 1 (.tmp 28), some (23, false)⟩⟩, .any),
                    (⟨10, [9, 3, 8, 7, 6, 2, 1, 0], false, ⟨(some 30), .lenS (.tmp 29), some (23, false)⟩⟩, (.int .i64)),
                    (⟨11, [5, 10, 3, 4, 2, 1, 0, 9, 8, 7, 6], false, ⟨(some 31), .bin .geq (.tmp 25) (.tmp 30), some (23, false)⟩⟩, .bool),
                    (⟨12, [3, 11, 2, 1, 0, 5, 10, 4, 9, 8, 7, 6], false, ⟨(some 32), .pick (.tmp 23) (.const (.bool true)) (.tmp 31), none⟩⟩, .bool)]) <|
              .cond (.tmp 32)
                (.seq (.reg [(⟨(some 6), .move (.const (.int .i64 51)), none⟩, (.int .i64))]) <|
                .ret)
                (.skip)) <|
          .reg [(⟨(some 33), .bin .add (.tmp 16) (.const (.int .i64 1)), none⟩, (.int .i64)),
            (⟨(some 16), .move (.tmp 33), none⟩, (.int .i64))]) <|
  .seq (.cut [] <|
      .seq (.reg [(⟨(some 9), .move (.const (.int .i64 1)), none⟩, (.int .i64))]) <|
      .block 2 <|
        .loop [(9, (.int .i64))] <|
          .seq (.seq (.reg [(⟨(some 34), .move (.tmp 9), none⟩, (.int .i64)),
                (⟨(some 35), .move (.tmp 1), none⟩, .any),
                (⟨(some 36), .lenS (.tmp 35), none⟩, (.int .i64)),
                (⟨(some 37), .bin .lss (.tmp 34) (.tmp 36), none⟩, .bool)]) <|
            .cond (.tmp 37)
              (.skip)
              (.exit 2)) <|
          .seq (.block 3 <|
              .seq (.regd [(⟨0, [], false, ⟨(some 40), .move (.tmp 1), none⟩⟩, .any),
                  (⟨1, [], false, ⟨(some 41), .move (.tmp 9), none⟩⟩, (.int .i64)),
                  (⟨2, [0, 1], false, ⟨(some 42), .idxSlice 33 (.tmp 40) (.tmp 41), none⟩⟩, .ptr),
                  (⟨3, [2, 0, 1], false, ⟨(some 43), .fieldAddr 0 (.tmp 42), none⟩⟩, .ptr),
                  (⟨4, [3, 2, 0, 1], false, ⟨(some 44), .load false 1 (.tmp 43), none⟩⟩, (.int .i64)),
                  (⟨5, [], false, ⟨(some 45), .move (.tmp 1), none⟩⟩, .any),
                  (⟨6, [], false, ⟨(some 46), .move (.tmp 9), none⟩⟩, (.int .i64)),
                  (⟨7, [6], false, ⟨(some 47), .bin .sub (.tmp 46) (.const (.int .i64 1)), none⟩⟩, (.int .i64)),
                  (⟨8, [5, 7, 6], false, ⟨(some 48), .idxSlice 33 (.tmp 45) (.tmp 47), none⟩⟩, .ptr),
                  (⟨9, [8, 5, 7, 6], false, ⟨(some 49), .fieldAddr 0 (.tmp 48), none⟩⟩, .ptr),
                  (⟨10, [9, 8, 5, 7, 6], false, ⟨(some 50), .load false 1 (.tmp 49), none⟩⟩, (.int .i64)),
                  (⟨11, [4, 10, 3, 2, 0, 1, 9, 8, 5, 7, 6], false, ⟨(some 51), .bin .leq (.tmp 44) (.tmp 50), none⟩⟩, .bool)]) <|
              .cond (.tmp 51)
                (.seq (.reg [(⟨(some 6), .move (.const (.int .i64 53)), none⟩, (.int .i64))]) <|
                .ret)
                (.skip)) <|
          .reg [(⟨(some 38), .move (.tmp 9), none⟩, (.int .i64)),
            (⟨(some 39), .bin .add (.tmp 38) (.const (.int .i64 1)), none⟩, (.int .i64)),
            (⟨(some 9), .move (.tmp 39), none⟩, (.int .i64))]) <|
  .seq (.seq (.cutn [(67, .bool)] <|
        .reg [(⟨(some 52), .move (.tmp 0), none⟩, .ptr),
          (⟨(some 53), .nilCheck (.tmp 52), none⟩, .ptr),
          (⟨(some 54), .fieldAddr 3 (.tmp 53), none⟩, .ptr),
          (⟨(some 55), .load false 1 (.tmp 54), none⟩, .bool),
          (⟨(some 56), .move (.tmp 55), none⟩, .bool),
          (⟨(some 57), .move (.tmp 2), some (56, true)⟩, (.int .u64)),
          (⟨(some 58), .move (.tmp 0), some (56, true)⟩, .ptr),
          (⟨(some 59), .nilCheck (.tmp 58), some (56, true)⟩, .ptr),
          (⟨(some 60), .fieldAddr 2 (.tmp 59), some (56, true)⟩, .ptr),
          (⟨(some 61), .load false 1 (.tmp 60), some (56, true)⟩, (.int .u64)),
          (⟨(some 62), .bin .leq (.tmp 57) (.tmp 61), some (56, true)⟩, .bool),
          (⟨(some 63), .pick (.tmp 56) (.tmp 62) (.const (.bool false)), none⟩, .bool),
          (⟨(some 64), .move (.tmp 63), none⟩, .bool),
          (⟨(some 65), .move (.tmp 2), some (64, false)⟩, (.int .u64)),
          (⟨(some 66), .bin .gtr (.tmp 65) (.const (.int .u64 4611686018427387904)), some (64, false)⟩, .bool),
          (⟨(some 67), .pick (.tmp 64) (.const (.bool true)) (.tmp 66), none⟩, .bool)]) <|
    .cond (.tmp 67)
      (.seq (.reg [(⟨(some 6), .move (.const (.int .i64 30)), none⟩, (.int .i64))]) <|
      .ret)
      (.skip)) <|
  .seq (.cutn [] <|
      .seq (.reg [(⟨(some 68), .move (.tmp 1), none⟩, .any),
          (⟨(some 69), .lenS (.tmp 68), none⟩, (.int .i64)),
          (⟨(some 70), .move (.const (.int .i64 0)), none⟩, (.int .i64))]) <|
      .block 4 <|
        .loop [(70, (.int .i64))] <|
          .seq (.reg [(⟨(some 71), .bin .lss (.tmp 70) (.tmp 69), none⟩, .any)]) <|
          .seq (.cond (.tmp 71)
              (.skip)
              (.exit 4)) <|
          .seq (.block 5 <|
              .seq (.reg [(⟨(some 72), .idxSlice 33 (.tmp 68) (.tmp 70), none⟩, .ptr),
                  (⟨(some 73), .load true 33 (.tmp 72), none⟩, .any),
                  (⟨(some 11), .alloc [(.int .i64 0), (.int .u8 0), (.int .u8 0), (.int .u8 0), (.int .u8 0), (.int .u8 0), (.int .u8 0), (.int .u8 0), (.int .u8 0), (.int .u8 0), (.int .u8 0), (.int .u8 0), (.int .u8 0), (.int .u8 0), (.int .u8 0), (.int .u8 0), (.int .u8 0), (.int .u8 0), (.int .u8 0), (.int .u8 0), (.int .u8 0), (.int .u8 0), (.int .u8 0), (.int .u8 0), (.int .u8 0), (.int .u8 0), (.int .u8 0), (.int .u8 0), (.int .u8 0), (.int .u8 0), (.int .u8 0), (.int .u8 0), (.int .u8 0)], none⟩, .ptr),
                  (⟨none, .store 33 (.tmp 11) (.tmp 73), none⟩, .any)]) <|
              .regd [(⟨0, [], false, ⟨(some 74), .move (.tmp 0), none⟩⟩, .ptr),
                (⟨1, [0], false, ⟨(some 75), .nilCheck (.tmp 74), none⟩⟩, .ptr),
                (⟨2, [1, 0], false, ⟨(some 76), .fieldAddr 0 (.tmp 75), none⟩⟩, .ptr),
                (⟨3, [2, 1, 0], false, ⟨(some 77), .load false 1 (.tmp 76), none⟩⟩, .any),
                (⟨4, [], false, ⟨(some 78), .fieldAddr 0 (.tmp 11), none⟩⟩, .ptr),
                (⟨5, [4], false, ⟨(some 79), .load false 1 (.tmp 78), none⟩⟩, (.int .i64)),
                (⟨6, [], false, ⟨(some 80), .move (.tmp 0), none⟩⟩, .ptr),
                (⟨7, [6], false, ⟨(some 81), .nilCheck (.tmp 80), none⟩⟩, .ptr),
                (⟨8, [7, 6], false, ⟨(some 82), .fieldAddr 1 (.tmp 81), none⟩⟩, .ptr),
                (⟨9, [8, 7, 6], false, ⟨(some 83), .load false 1 (.tmp 82), none⟩⟩, .any),
                (⟨10, [], false, ⟨(some 84), .fieldAddr 0 (.tmp 11), none⟩⟩, .ptr),
                (⟨11, [10], false, ⟨(some 85), .load false 1 (.tmp 84), none⟩⟩, (.int .i64)),
                (⟨12, [], false, ⟨(some 86), .fieldAddr 0 (.tmp 11), none⟩⟩, .ptr),
                (⟨13, [12], false, ⟨(some 87), .load false 1 (.tmp 86), none⟩⟩, (.int .i64)),
                (⟨14, [], false, ⟨(some 88), .fieldAddr 1 (.tmp 11), none⟩⟩, .ptr),
                (⟨15, [14], false, ⟨(some 89), .load true 32 (.tmp 88), none⟩⟩, .any),
                (⟨16, [], false, ⟨(some 90), .move (.tmp 2), none⟩⟩, (.int .u64)),
                (⟨17, [13, 15, 16, 12, 14], false, ⟨(some 91), .build [(.int .i64 0), (.int .u8 0), (.int .u8 0), (.int .u8 0), (.int .u8 0), (.int .u8 0), (.int .u8 0), (.int .u8 0), (.int .u8 0), (.int .u8 0), (.int .u8 0), (.int .u8 0), (.int .u8 0), (.int .u8 0), (.int .u8 0), (.int .u8 0), (.int .u8 0), (.int .u8 0), (.int .u8 0), (.int .u8 0), (.int .u8 0), (.int .u8 0), (.int .u8 0), (.int .u8 0), (.int .u8 0), (.int .u8 0), (.int .u8 0), (.int .u8 0), (.int .u8 0), (.int .u8 0), (.int .u8 0), (.int .u8 0), (.int .u8 0), (.int .u64 0)] [(0, 1, (.tmp 87)), (1, 32, (.tmp 89)), (33, 1, (.tmp 90))], none⟩⟩, .any),
                (⟨18, [3, 5, 0, 1, 2, 4, 9, 12, 13, 14, 15, 16, 17, 8, 7, 6], false, ⟨(some 92), .idxSlice 34 (.tmp 77) (.tmp 79), none⟩⟩, .ptr),
                (⟨19, [18, 17, 0, 1, 2, 3, 4, 5, 9, 12, 13, 14, 15, 16, 8, 7, 6], true, ⟨none, .store 34 (.tmp 92) (.tmp 91), none⟩⟩, .any),
                (⟨20, [9, 11, 0, 1, 2, 3, 4, 5, 6, 7, 8, 10, 12, 13, 14, 15, 16, 17, 18, 19], false, ⟨(some 93), .idxSlice 1 (.tmp 83) (.tmp 85), none⟩⟩, .ptr),
                (⟨21, [20, 19, 0, 1, 2, 3, 4, 5, 6, 7, 8, 9, 10, 11, 12, 13, 14, 15, 16, 17, 18], true, ⟨none, .store 1 (.tmp 93) (.const (.bool true)), none⟩⟩, .any)]) <|
          .reg [(⟨(some 94), .bin .add (.tmp 70) (.const (.int .i64 1)), none⟩, (.int .i64)),
            (⟨(some 70), .move (.tmp 94), none⟩, (.int .i64))]) <|
  .seq (.reg [(⟨(some 95), .move (.tmp 0), none⟩, .ptr),
      (⟨(some 96), .move (.tmp 0), none⟩, .ptr),
      (⟨(some 97), .move (.tmp 2), none⟩, (.int .u64)),
      (⟨(some 98), .nilCheck (.tmp 95), none⟩, .ptr),
      (⟨(some 99), .fieldAddr 2 (.tmp 98), none⟩, .ptr),
      (⟨none, .store 1 (.tmp 99) (.tmp 97), none⟩, .any),
      (⟨(some 100), .nilCheck (.tmp 96), none⟩, .ptr),
      (⟨(some 101), .fieldAddr 3 (.tmp 100), none⟩, .ptr),
      (⟨none, .store 1 (.tmp 101) (.const (.bool true)), none⟩, .any)]) <|
  .seq (.reg [(⟨(some 6), .move (.const (.int .i64 0)), none⟩, (.int .i64))]) <|
  .ret
def f_cache_Cache_Put_L14 (n : Nat) (u1 : Value) (u0 : Option Addr) (n1 : Nat) (v2 : Int) (h3 : Heap) : Option (((Int × Unit) × Heap) ⊕ (((Unit) × Heap) ⊕ ((Int × Unit) × Heap))) :=
  bif (decide (v2 < (n1 : Int))) then
    ((ixB 33 u1 v2).bind fun q4 =>
    (ldA 33 h3 (some q4)).bind fun cs5 =>
    bnd ((Heap.new h3 (.cells [(.int .i64 0), (.int .u8 0), (.int .u8 0), (.int .u8 0), (.int .u8 0), (.int .u8 0), (.int .u8 0), (.int .u8 0), (.int .u8 0), (.int .u8 0), (.int .u8 0), (.int .u8 0), (.int .u8 0), (.int .u8 0), (.int .u8 0), (.int .u8 0), (.int .u8 0), (.int .u8 0), (.int .u8 0), (.int .u8 0), (.int .u8 0), (.int .u8 0), (.int .u8 0), (.int .u8 0), (.int .u8 0), (.int .u8 0), (.int .u8 0), (.int .u8 0), (.int .u8 0), (.int .u8 0), (.int .u8 0), (.int .u8 0), (.int .u8 0)] false 0))) fun h6 =>
    (stB 33 (.agg ⟨cs5⟩) h6 (some (nwA h3))).bind fun h7 =>
    (((ldT (.int .i64) h7 (some (fa (nwA h3) 0))).bind fun x8 =>
      bif (decide (x8 < 0)) then
        (some ((true, ()), h7))
      else
        ((ldT (.int .i64) h7 (some (fa (nwA h3) 0))).bind fun x9 =>
        (u0).bind fun q10 =>
        (ldT .any h7 (some (fa q10 0))).bind fun x11 =>
        (lenB x11).bind fun n12 =>
        some (((decide ((n12 : Int) ≤ x9)), ()), h7))) : Option ((Bool × Unit) × Heap)).bind fun a13 =>
    bif a13.1.1 then
      (some (.inr (.inr ((51, ()), a13.2))))
    else
      (some (.inl (((IntKind.i64.wrap (v2 + 1)), ()), a13.2))))
  else
    (some (.inr (.inl ((), h3))))
def f_cache_Cache_Put_C15 (n : Nat) (u1 : Value) (u0 : Option Addr) (h0 : Heap) : Option (((Unit) × Heap) ⊕ ((Int × Unit) × Heap)) :=
  (lenB u1).bind fun n1 =>
  loopT (fun a => f_cache_Cache_Put_L14 n u1 u0 n1 a.1.1 a.2) n ((0, ()), h0)
def f_cache_Cache_Put_L25 (n : Nat) (u1 : Value) (v18 : Int) (h19 : Heap) : Option (((Int × Unit) × Heap) ⊕ (((Unit) × Heap) ⊕ ((Int × Unit) × Heap))) :=
  (lenB u1).bind fun n20 =>
  bif (decide (v18 < (n20 : Int))) then
    ((ixB 33 u1 v18).bind fun q21 =>
    (ldT (.int .i64) h19 (some (fa q21 0))).bind fun x22 =>
    (ixB 33 u1 (IntKind.i64.wrap (v18 - 1))).bind fun q23 =>
    (ldT (.int .i64) h19 (some (fa q23 0))).bind fun x24 =>
    bif (decide (x22 ≤ x24)) then
      (some (.inr (.inr ((53, ()), h19))))
    else
      (some (.inl (((IntKind.i64.wrap (v18 + 1)), ()), h19))))
  else
    (some (.inr (.inl ((), h19))))
def f_cache_Cache_Put_C26 (n : Nat) (u1 : Value) (h17 : Heap) : Option (((Unit) × Heap) ⊕ ((Int × Unit) × Heap)) :=
  loopT (fun a => f_cache_Cache_Put_L25 n u1 a.1.1 a.2) n ((1, ()), h17)
def f_cache_Cache_Put_L54 (n : Nat) (u2 : Int) (u1 : Value) (u0 : Option Addr) (n33 : Nat) (v34 : Int) (h35 : Heap) : Option (((Int × Unit) × Heap) ⊕ ((Unit) × Heap)) :=
  bif (decide (v34 < (n33 : Int))) then
    ((ixB 33 u1 v34).bind fun q36 =>
    (ldA 33 h35 (some q36)).bind fun cs37 =>
    bnd ((Heap.new h35 (.cells [(.int .i64 0), (.int .u8 0), (.int .u8 0), (.int .u8 0), (.int .u8 0), (.int .u8 0), (.int .u8 0), (.int .u8 0), (.int .u8 0), (.int .u8 0), (.int .u8 0), (.int .u8 0), (.int .u8 0), (.int .u8 0), (.int .u8 0), (.int .u8 0), (.int .u8 0), (.int .u8 0), (.int .u8 0), (.int .u8 0), (.int .u8 0), (.int .u8 0), (.int .u8 0), (.int .u8 0), (.int .u8 0), (.int .u8 0), (.int .u8 0), (.int .u8 0), (.int .u8 0), (.int .u8 0), (.int .u8 0), (.int .u8 0), (.int .u8 0)] false 0))) fun h38 =>
    (stB 33 (.agg ⟨cs37⟩) h38 (some (nwA h35))).bind fun h39 =>
    (u0).bind fun q40 =>
    (ldT .any h39 (some (fa q40 0))).bind fun x41 =>
    (ldT (.int .i64) h39 (some (fa (nwA h35) 0))).bind fun x42 =>
    (u0).bind fun q43 =>
    (ldT .any h39 (some (fa q43 1))).bind fun x44 =>
    (ldT (.int .i64) h39 (some (fa (nwA h35) 0))).bind fun x45 =>
    (ldT (.int .i64) h39 (some (fa (nwA h35) 0))).bind fun x46 =>
    (ldA 32 h39 (some (fa (nwA h35) 1))).bind fun cs47 =>
    (fillL [(.int .i64 0), (.int .u8 0), (.int .u8 0), (.int .u8 0), (.int .u8 0), (.int .u8 0), (.int .u8 0), (.int .u8 0), (.int .u8 0), (.int .u8 0), (.int .u8 0), (.int .u8 0), (.int .u8 0), (.int .u8 0), (.int .u8 0), (.int .u8 0), (.int .u8 0), (.int .u8 0), (.int .u8 0), (.int .u8 0), (.int .u8 0), (.int .u8 0), (.int .u8 0), (.int .u8 0), (.int .u8 0), (.int .u8 0), (.int .u8 0), (.int .u8 0), (.int .u8 0), (.int .u8 0), (.int .u8 0), (.int .u8 0), (.int .u8 0), (.int .u64 0)] [(0, 1, (.int .i64 x46)), (1, 32, (.agg ⟨cs47⟩)), (33, 1, (.int .u64 u2))]).bind fun cs48 =>
    (ixB 34 x41 x42).bind fun q49 =>
    (stB 34 (.agg ⟨cs48⟩) (hid h39 [] ((Addr.block (fa (nwA h35) 0)) :: [])) (some q49)).bind fun h50 =>
    bnd (Heap.putBack h50 h39 ([] ++ ((Addr.block (fa (nwA h35) 0)) :: []))) fun h51 =>
    (ixB 1 x44 x45).bind fun q52 =>
    (stB 1 (.bool true) h51 (some q52)).bind fun h53 =>
    some (.inl (((IntKind.i64.wrap (v34 + 1)), ()), h53)))
  else
    (some (.inr ((), h35)))
noncomputable def sf_cache_Cache_Put (n : Nat) : Sf := sfOf []
noncomputable def it_cache_Cache_Put (n : Nat) : It := itOf []
def f_cache_Cache_Put (n : Nat) (u0 : Option Addr) (u1 : Value) (u2 : Int) (h : Heap) : Option ((Int × Unit) × Heap) :=
  bif (Option.isNone u0) then
    (some ((1, ()), h))
  else
    (thenB (f_cache_Cache_Put_C15 n u1 u0 (h)) fun a16 =>
    thenB (f_cache_Cache_Put_C26 n u1 (a16.2)) fun a27 =>
    (((u0).bind fun q28 =>
      (ldT .bool a27.2 (some (fa q28 3))).bind fun x29 =>
      bif x29 then
        ((u0).bind fun q30 =>
        (ldT (.int .u64) a27.2 (some (fa q30 2))).bind fun x31 =>
        bif (decide (u2 ≤ x31)) then
          (some ((true, ()), a27.2))
        else
          (some (((decide (4611686018427387904 < u2)), ()), a27.2)))
      else
        (some (((decide (4611686018427387904 < u2)), ()), a27.2))) : Option ((Bool × Unit) × Heap)).bind fun a32 =>
    bif a32.1.1 then
      (some ((30, ()), a32.2))
    else
      ((((lenB u1).bind fun n33 =>
        loopT (fun a => f_cache_Cache_Put_L54 n u2 u1 u0 n33 a.1.1 a.2) n ((0, ()), a32.2)) : Option ((Unit) × Heap)).bind fun a55 =>
      (u0).bind fun q56 =>
      (stB 1 (.int .u64 u2) a55.2 (some (fa q56 2))).bind fun h57 =>
      (u0).bind fun q58 =>
      (stB 1 (.bool true) h57 (some (fa q58 3))).bind fun h59 =>
      some ((0, ()), h59)))
def rs_cache_Cache_Put : Rs := [(.tmp 6, (.int .i64))]
def ps_cache_Cache_Put : List Ty := [.ptr, .any, (.int .u64)]
theorem e_cache_Cache_Put (n : Nat) (u0 : Option Addr) (u1 : Value) (u2 : Int) (h : Heap) : f_cache_Cache_Put n u0 u1 u2 h = fB (sf_cache_Cache_Put n) (it_cache_Cache_Put n) n c2_cache_Cache_Put rs_cache_Cache_Put ps_cache_Cache_Put (u0, (u1, (u2, ()))) h := by kernel_rfl
noncomputable def s_cache_Cache_Put (n : Nat) : Sf1 := mkSf ps_cache_Cache_Put rs_cache_Cache_Put fun a h => f_cache_Cache_Put n a.1 a.2.1 a.2.2.1 h

/- (*wicket/cache.Cache).Get -/
def c2_cache_Cache_Get : C2 :=
  .seq (.reg [(⟨(some 4), .alloc [(.int .i64 0), (.int .u8 0), (.int .u8 0), (.int .u8 0), (.int .u8 0), (.int .u8 0), (.int .u8 0), (.int .u8 0), (.int .u8 0), (.int .u8 0), (.int .u8 0), (.int .u8 0), (.int .u8 0), (.int .u8 0), (.int .u8 0), (.int .u8 0), (.int .u8 0), (.int .u8 0), (.int .u8 0), (.int .u8 0), (.int .u8 0), (.int .u8 0), (.int .u8 0), (.int .u8 0), (.int .u8 0), (.int .u8 0), (.int .u8 0), (.int .u8 0), (.int .u8 0), (.int .u8 0), (.int .u8 0), (.int .u8 0), (.int .u8 0), (.int .u64 0)], none⟩, .ptr),
      (⟨(some 5), .move (.const (.bool false)), none⟩, .bool)]) <|
  .seq (.seq (.cutn [(30, .bool)] <|
        .reg [(⟨(some 6), .move (.tmp 0), none⟩, .ptr),
          (⟨(some 7), .eqv false .ptr (.tmp 6) (.const (.pointer none)), none⟩, .bool),
          (⟨(some 8), .move (.tmp 7), none⟩, .bool),
          (⟨(some 9), .move (.tmp 1), some (8, false)⟩, (.int .i64)),
          (⟨(some 10), .bin .lss (.tmp 9) (.const (.int .i64 0)), some (8, false)⟩, .bool),
          (⟨(some 11), .pick (.tmp 8) (.const (.bool true)) (.tmp 10), none⟩, .bool),
          (⟨(some 12), .move (.tmp 11), none⟩, .bool),
          (⟨(some 13), .move (.tmp 1), some (12, false)⟩, (.int .i64)),
          (⟨(some 14), .move (.tmp 0), some (12, false)⟩, .ptr),
          (⟨(some 15), .nilCheck (.tmp 14), some (12, false)⟩, .ptr),
          (⟨(some 16), .fieldAddr 0 (.tmp 15), some (12, false)⟩, .ptr),
          (⟨(some 17), .load false 1 (.tmp 16), some (12, false)⟩, .any),
          (⟨(some 18), .lenS (.tmp 17), some (12, false)⟩, (.int .i64)),
          (⟨(some 19), .bin .geq (.tmp 13) (.tmp 18), some (12, false)⟩, .bool),
          (⟨(some 20), .pick (.tmp 12) (.const (.bool true)) (.tmp 19), none⟩, .bool),
          (⟨(some 21), .move (.tmp 20), none⟩, .bool),
          (⟨(some 22), .move (.tmp 0), some (21, false)⟩, .ptr),
          (⟨(some 23), .nilCheck (.tmp 22), some (21, false)⟩, .ptr),
          (⟨(some 24), .fieldAddr 1 (.tmp 23), some (21, false)⟩, .ptr),
          (⟨(some 25), .load false 1 (.tmp 24), some (21, false)⟩, .any),
          (⟨(some 26), .move (.tmp 1), some (21, false)⟩, (.int .i64)),
          (⟨(some 27), .idxSlice 1 (.tmp 25) (.tmp 26), some (21, false)⟩, .ptr),
          (⟨(some 28), .load false 1 (.tmp 27), some (21, false)⟩, .bool),
          (⟨(some 29), .un .not (.tmp 28), some (21, false)⟩, .bool),
          (⟨(some 30), .pick (.tmp 21) (.const (.bool true)) (.tmp 29), none⟩, .bool)]) <|
    .cond (.tmp 30)
      (.seq (.reg [(⟨(some 31), .build [(.int .i64 0), (.int .u8 0), (.int .u8 0), (.int .u8 0), (.int .u8 0), (.int .u8 0), (.int .u8 0), (.int .u8 0), (.int .u8 0), (.int .u8 0), (.int .u8 0), (.int .u8 0), (.int .u8 0), (.int .u8 0), (.int .u8 0), (.int .u8 0), (.int .u8 0), (.int .u8 0), (.int .u8 0), (.int .u8 0), (.int .u8 0), (.int .u8 0), (.int .u8 0), (.int .u8 0), (.int .u8 0), (.int .u8 0), (.int .u8 0), (.int .u8 0), (.int .u8 0), (.int .u8 0), (.int .u8 0), (.int .u8 0), (.int .u8 0), (.int .u64 0)] [], none⟩, .any),
          (⟨none, .store 34 (.tmp 4) (.tmp 31), none⟩, .any),
          (⟨(some 5), .move (.const (.bool false)), none⟩, .bool)]) <|
      .ret)
      (.skip)) <|
  .seq (.reg [(⟨(some 32), .move (.tmp 0), none⟩, .ptr),
      (⟨(some 33), .nilCheck (.tmp 32), none⟩, .ptr),
      (⟨(some 34), .fieldAddr 0 (.tmp 33), none⟩, .ptr),
      (⟨(some 35), .load false 1 (.tmp 34), none⟩, .any),
      (⟨(some 36), .move (.tmp 1), none⟩, (.int .i64)),
      (⟨(some 37), .idxSlice 34 (.tmp 35) (.tmp 36), none⟩, .ptr),
      (⟨(some 38), .load true 34 (.tmp 37), none⟩, .any),
      (⟨none, .store 34 (.tmp 4) (.tmp 38), none⟩, .any),
      (⟨(some 5), .move (.const (.bool true)), none⟩, .bool)]) <|
  .ret
noncomputable def sf_cache_Cache_Get (n : Nat) : Sf := sfOf []
noncomputable def it_cache_Cache_Get (n : Nat) : It := itOf []
def f_cache_Cache_Get (n : Nat) (u0 : Option Addr) (u1 : Int) (h : Heap) : Option ((Value × Bool × Unit) × Heap) :=
  bnd ((Heap.new h (.cells [(.int .i64 0), (.int .u8 0), (.int .u8 0), (.int .u8 0), (.int .u8 0), (.int .u8 0), (.int .u8 0), (.int .u8 0), (.int .u8 0), (.int .u8 0), (.int .u8 0), (.int .u8 0), (.int .u8 0), (.int .u8 0), (.int .u8 0), (.int .u8 0), (.int .u8 0), (.int .u8 0), (.int .u8 0), (.int .u8 0), (.int .u8 0), (.int .u8 0), (.int .u8 0), (.int .u8 0), (.int .u8 0), (.int .u8 0), (.int .u8 0), (.int .u8 0), (.int .u8 0), (.int .u8 0), (.int .u8 0), (.int .u8 0), (.int .u8 0), (.int .u64 0)] false 0))) fun h0 =>
  ((bif (Option.isNone u0) then
      (some ((true, ()), h0))
    else
      (bif (decide (u1 < 0)) then
        (some ((true, ()), h0))
      else
        ((u0).bind fun q1 =>
        (ldT .any h0 (some (fa q1 0))).bind fun x2 =>
        (lenB x2).bind fun n3 =>
        bif (decide ((n3 : Int) ≤ u1)) then
          (some ((true, ()), h0))
        else
          ((u0).bind fun q4 =>
          (ldT .any h0 (some (fa q4 1))).bind fun x5 =>
          (ixB 1 x5 u1).bind fun q6 =>
          (ldT .bool h0 (some q6)).bind fun x7 =>
          some (((!x7), ()), h0))))) : Option ((Bool × Unit) × Heap)).bind fun a8 =>
  bif a8.1.1 then
    ((fillL [(.int .i64 0), (.int .u8 0), (.int .u8 0), (.int .u8 0), (.int .u8 0), (.int .u8 0), (.int .u8 0), (.int .u8 0), (.int .u8 0), (.int .u8 0), (.int .u8 0), (.int .u8 0), (.int .u8 0), (.int .u8 0), (.int .u8 0), (.int .u8 0), (.int .u8 0), (.int .u8 0), (.int .u8 0), (.int .u8 0), (.int .u8 0), (.int .u8 0), (.int .u8 0), (.int .u8 0), (.int .u8 0), (.int .u8 0), (.int .u8 0), (.int .u8 0), (.int .u8 0), (.int .u8 0), (.int .u8 0), (.int .u8 0), (.int .u8 0), (.int .u64 0)] []).bind fun cs9 =>
    (stB 34 (.agg ⟨cs9⟩) a8.2 (some (nwA h))).bind fun h10 =>
    (ldA 34 h10 (some (nwA h))).bind fun cs11 =>
    some (((.agg ⟨cs11⟩), (false, ())), h10))
  else
    ((u0).bind fun q12 =>
    (ldT .any a8.2 (some (fa q12 0))).bind fun x13 =>
    (ixB 34 x13 u1).bind fun q14 =>
    (ldA 34 a8.2 (some q14)).bind fun cs15 =>
    (stB 34 (.agg ⟨cs15⟩) a8.2 (some (nwA h))).bind fun h16 =>
    (ldA 34 h16 (some (nwA h))).bind fun cs17 =>
    some (((.agg ⟨cs17⟩), (true, ())), h16))
def rs_cache_Cache_Get : Rs := [(.cell true 34 4, .any), (.tmp 5, .bool)]
def ps_cache_Cache_Get : List Ty := [.ptr, (.int .i64)]
theorem e_cache_Cache_Get (n : Nat) (u0 : Option Addr) (u1 : Int) (h : Heap) : f_cache_Cache_Get n u0 u1 h = fB (sf_cache_Cache_Get n) (it_cache_Cache_Get n) n c2_cache_Cache_Get rs_cache_Cache_Get ps_cache_Cache_Get (u0, (u1, ())) h := by kernel_rfl
noncomputable def s_cache_Cache_Get (n : Nat) : Sf1 := mkSf ps_cache_Cache_Get rs_cache_Cache_Get fun a h => f_cache_Cache_Get n a.1 a.2.1 h

/- (*wicket/cache.Cache).Copy -/
def c2_cache_Cache_Copy : C2 :=
  .seq (.reg [(⟨(some 2), .move (.const (.pointer none)), none⟩, .ptr)]) <|
  .seq (.seq (.reg [(⟨(some 4), .move (.tmp 0), none⟩, .ptr),
        (⟨(some 5), .eqv false .ptr (.tmp 4) (.const (.pointer none)), none⟩, .bool)]) <|
    .cond (.tmp 5)
      (.seq (.reg [(⟨(some 2), .move (.const (.pointer none)), none⟩, .ptr)]) <|
      .ret)
      (.skip)) <|
  .seq (.reg [(⟨(some 6), .move (.tmp 0), none⟩, .ptr),
      (⟨(some 7), .nilCheck (.tmp 6), none⟩, .ptr),
      (⟨(some 8), .load true 4 (.tmp 7), none⟩, .any),
      (⟨(some 3), .alloc [(.slice none 0 0), (.slice none 0 0), (.int .u64 0), (.bool false)], none⟩, .ptr),
      (⟨none, .store 4 (.tmp 3) (.tmp 8), none⟩, .any)]) <|
  .seq (.reg [(⟨(some 9), .move (.tmp 0), none⟩, .ptr),
      (⟨(some 10), .nilCheck (.tmp 9), none⟩, .ptr),
      (⟨(some 11), .fieldAddr 0 (.tmp 10), none⟩, .ptr),
      (⟨(some 12), .load false 1 (.tmp 11), none⟩, .any),
      (⟨(some 13), .append 48 34 (.const (.slice none 0 0)) (.tmp 12), none⟩, .any),
      (⟨(some 14), .fieldAddr 0 (.tmp 3), none⟩, .ptr),
      (⟨none, .store 1 (.tmp 14) (.tmp 13), none⟩, .any)]) <|
  .seq (.reg [(⟨(some 15), .move (.tmp 0), none⟩, .ptr),
      (⟨(some 16), .nilCheck (.tmp 15), none⟩, .ptr),
      (⟨(some 17), .fieldAddr 1 (.tmp 16), none⟩, .ptr),
      (⟨(some 18), .load false 1 (.tmp 17), none⟩, .any),
      (⟨(some 19), .append 1 1 (.const (.slice none 0 0)) (.tmp 18), none⟩, .any),
      (⟨(some 20), .fieldAddr 1 (.tmp 3), none⟩, .ptr),
      (⟨none, .store 1 (.tmp 20) (.tmp 19), none⟩, .any)]) <|
  .seq (.reg [(⟨(some 2), .move (.tmp 3), none⟩, .ptr)]) <|
  .ret
noncomputable def sf_cache_Cache_Copy (n : Nat) : Sf := sfOf []
noncomputable def it_cache_Cache_Copy (n : Nat) : It := itOf []
def f_cache_Cache_Copy (n : Nat) (u0 : Option Addr) (h : Heap) : Option ((Option Addr × Unit) × Heap) :=
  bif (Option.isNone u0) then
    (some ((none, ()), h))
  else
    ((u0).bind fun q0 =>
    (ldA 4 h (some q0)).bind fun cs1 =>
    bnd ((Heap.new h (.cells [(.slice none 0 0), (.slice none 0 0), (.int .u64 0), (.bool false)] false 0))) fun h2 =>
    (stB 4 (.agg ⟨cs1⟩) h2 (some (nwA h))).bind fun h3 =>
    (u0).bind fun q4 =>
    (ldT .any h3 (some (fa q4 0))).bind fun x5 =>
    (appendK h3 48 34 (.slice none 0 0) x5).bind fun p6 =>
    (stB 1 p6.1 p6.2 (some (fa (nwA h) 0))).bind fun h7 =>
    (u0).bind fun q8 =>
    (ldT .any h7 (some (fa q8 1))).bind fun x9 =>
    (appendK h7 1 1 (.slice none 0 0) x9).bind fun p10 =>
    (stB 1 p10.1 p10.2 (some (fa (nwA h) 1))).bind fun h11 =>
    some (((some (nwA h)), ()), h11))
def rs_cache_Cache_Copy : Rs := [(.tmp 2, .ptr)]
def ps_cache_Cache_Copy : List Ty := [.ptr]
theorem e_cache_Cache_Copy (n : Nat) (u0 : Option Addr) (h : Heap) : f_cache_Cache_Copy n u0 h = fB (sf_cache_Cache_Copy n) (it_cache_Cache_Copy n) n c2_cache_Cache_Copy rs_cache_Cache_Copy ps_cache_Cache_Copy (u0, ()) h := by kernel_rfl
noncomputable def s_cache_Cache_Copy (n : Nat) : Sf1 := mkSf ps_cache_Cache_Copy rs_cache_Cache_Copy fun a h => f_cache_Cache_Copy n a.1 h

/- (*wicket/cache.Cache).Drop -/
def c2_cache_Cache_Drop : C2 :=
  .seq (.reg [(⟨(some 4), .move (.const (.int .i64 0)), none⟩, (.int .i64))]) <|
  .seq (.reg [(⟨(some 5), .move (.const (.int .i64 0)), none⟩, (.int .i64))]) <|
  .seq (.seq (.reg [(⟨(some 10), .move (.tmp 1), none⟩, .any),
        (⟨(some 11), .lenS (.tmp 10), none⟩, (.int .i64)),
        (⟨(some 12), .move (.const (.int .i64 0)), none⟩, (.int .i64))]) <|
    .block 0 <|
      .loop [(5, (.int .i64)), (12, (.int .i64))] <|
        .seq (.reg [(⟨(some 13), .bin .lss (.tmp 12) (.tmp 11), none⟩, .any)]) <|
        .seq (.cond (.tmp 13)
            (.skip)
            (.exit 0)) <|
        .seq (.cutn [(5, (.int .i64))] <|
            .block 1 <|
              .seq (.reg [(⟨(some 14), .idxSlice 34 (.tmp 10) (.tmp 12), none⟩, .ptr),
                  (⟨(some 15), .load true 34 (.tmp 14), none⟩, .any),
                  (⟨(some 7), .alloc [(.int .i64 0), (.int .u8 0), (.int .u8 0), (.int .u8 0), (.int .u8 0), (.int .u8 0), (.int .u8 0), (.int .u8 0), (.int .u8 0), (.int .u8 0), (.int .u8 0), (.int .u8 0), (.int .u8 0), (.int .u8 0), (.int .u8 0), (.int .u8 0), (.int .u8 0), (.int .u8 0), (.int .u8 0), (.int .u8 0), (.int .u8 0), (.int .u8 0), (.int .u8 0), (.int .u8 0), (.int .u8 0), (.int .u8 0), (.int .u8 0), (.int .u8 0), (.int .u8 0), (.int .u8 0), (.int .u8 0), (.int .u8 0), (.int .u8 0), (.int .u64 0)], none⟩, .ptr),
                  (⟨none, .store 34 (.tmp 7) (.tmp 15), none⟩, .any)]) <|
              .seq (.reg [(⟨(some 17), .move (.tmp 0), none⟩, .ptr),
                  (⟨(some 18), .fieldAddr 0 (.tmp 7), none⟩, .ptr),
                  (⟨(some 19), .load false 1 (.tmp 18), none⟩, (.int .i64)),
                  (⟨(some 20), .call k_cache_Cache_Get [(.tmp 17), (.tmp 19)], none⟩, .any),
                  (⟨(some 16), .move (.tmp 20), none⟩, .any),
                  (⟨(some 21), .extract (.tmp 16) 0, none⟩, .any),
                  (⟨(some 22), .extract (.tmp 16) 1, none⟩, .bool),
                  (⟨(some 8), .alloc [(.int .i64 0), (.int .u8 0), (.int .u8 0), (.int .u8 0), (.int .u8 0), (.int .u8 0), (.int .u8 0), (.int .u8 0), (.int .u8 0), (.int .u8 0), (.int .u8 0), (.int .u8 0), (.int .u8 0), (.int .u8 0), (.int .u8 0), (.int .u8 0), (.int .u8 0), (.int .u8 0), (.int .u8 0), (.int .u8 0), (.int .u8 0), (.int .u8 0), (.int .u8 0), (.int .u8 0), (.int .u8 0), (.int .u8 0), (.int .u8 0), (.int .u8 0), (.int .u8 0), (.int .u8 0), (.int .u8 0), (.int .u8 0), (.int .u8 0), (.int .u64 0)], none⟩, .ptr),
                  (⟨none, .store 34 (.tmp 8) (.tmp 21), none⟩, .any),
                  (⟨(some 9), .move (.tmp 22), none⟩, .bool)]) <|
              .seq (.cutn [(30, .bool)] <|
                  .reg [(⟨(some 23), .move (.tmp 9), none⟩, .bool),
                    (⟨(some 24), .move (.tmp 23), none⟩, .bool),
                    (⟨(some 25), .fieldAddr 33 (.tmp 8), some (24, true)⟩, .ptr),
                    (⟨(some 26), .load false 1 (.tmp 25), some (24, true)⟩, (.int .u64)),
                    (⟨(some 27), .fieldAddr 33 (.tmp 7), some (24, true)⟩, .ptr),
                    (⟨(some 28), .load false 1 (.tmp 27), some (24, true)⟩, (.int .u64)),
                    (⟨(some 29), .bin .eql (.tmp 26) (.tmp 28), some (24, true)⟩, .bool),
                    (⟨(some 30), .pick (.tmp 24) (.tmp 29) (.const (.bool false)), none⟩, .bool)]) <|
              .cond (.tmp 30)
                (.seq (.regd [(⟨0, [], false, ⟨(some 31), .move (.tmp 0), none⟩⟩, .ptr),
                    (⟨1, [0], false, ⟨(some 32), .nilCheck (.tmp 31), none⟩⟩, .ptr),
                    (⟨2, [1, 0], false, ⟨(some 33), .fieldAddr 1 (.tmp 32), none⟩⟩, .ptr),
                    (⟨3, [2, 1, 0], false, ⟨(some 34), .load false 1 (.tmp 33), none⟩⟩, .any),
                    (⟨4, [], false, ⟨(some 35), .fieldAddr 0 (.tmp 7), none⟩⟩, .ptr),
                    (⟨5, [4], false, ⟨(some 36), .load false 1 (.tmp 35), none⟩⟩, (.int .i64)),
                    (⟨6, [3, 5, 0, 1, 2, 4], false, ⟨(some 37), .idxSlice 1 (.tmp 34) (.tmp 36), none⟩⟩, .ptr),
                    (⟨7, [6, 0, 1, 2, 3, 4, 5], true, ⟨none, .store 1 (.tmp 37) (.const (.bool false)), none⟩⟩, .any)]) <|
                .reg [(⟨(some 38), .move (.tmp 5), none⟩, (.int .i64)),
                  (⟨(some 39), .bin .add (.tmp 38) (.const (.int .i64 1)), none⟩, (.int .i64)),
                  (⟨(some 5), .move (.tmp 39), none⟩, (.int .i64))])
                (.skip)) <|
        .reg [(⟨(some 40), .bin .add (.tmp 12) (.const (.int .i64 1)), none⟩, (.int .i64)),
          (⟨(some 12), .move (.tmp 40), none⟩, (.int .i64))]) <|
  .seq (.reg [(⟨(some 41), .move (.tmp 5), none⟩, (.int .i64)),
      (⟨(some 4), .move (.tmp 41), none⟩, (.int .i64))]) <|
  .ret
def f_cache_Cache_Drop_L21 (n : Nat) (u1 : Value) (u0 : Option Addr) (n0 : Nat) (v1 : Int) (v2 : Int) (h3 : Heap) : Option (((Int × Int × Unit) × Heap) ⊕ ((Int × Unit) × Heap)) :=
  bif (decide (v2 < (n0 : Int))) then
    ((((ixB 34 u1 v2).bind fun q4 =>
      (ldA 34 h3 (some q4)).bind fun cs5 =>
      bnd ((Heap.new h3 (.cells [(.int .i64 0), (.int .u8 0), (.int .u8 0), (.int .u8 0), (.int .u8 0), (.int .u8 0), (.int .u8 0), (.int .u8 0), (.int .u8 0), (.int .u8 0), (.int .u8 0), (.int .u8 0), (.int .u8 0), (.int .u8 0), (.int .u8 0), (.int .u8 0), (.int .u8 0), (.int .u8 0), (.int .u8 0), (.int .u8 0), (.int .u8 0), (.int .u8 0), (.int .u8 0), (.int .u8 0), (.int .u8 0), (.int .u8 0), (.int .u8 0), (.int .u8 0), (.int .u8 0), (.int .u8 0), (.int .u8 0), (.int .u8 0), (.int .u8 0), (.int .u64 0)] false 0))) fun h6 =>
      (stB 34 (.agg ⟨cs5⟩) h6 (some (nwA h3))).bind fun h7 =>
      (ldT (.int .i64) h7 (some (fa (nwA h3) 0))).bind fun x8 =>
      (f_cache_Cache_Get n u0 x8 h7).bind fun p9 =>
      bnd ((Heap.new p9.2 (.cells [(.int .i64 0), (.int .u8 0), (.int .u8 0), (.int .u8 0), (.int .u8 0), (.int .u8 0), (.int .u8 0), (.int .u8 0), (.int .u8 0), (.int .u8 0), (.int .u8 0), (.int .u8 0), (.int .u8 0), (.int .u8 0), (.int .u8 0), (.int .u8 0), (.int .u8 0), (.int .u8 0), (.int .u8 0), (.int .u8 0), (.int .u8 0), (.int .u8 0), (.int .u8 0), (.int .u8 0), (.int .u8 0), (.int .u8 0), (.int .u8 0), (.int .u8 0), (.int .u8 0), (.int .u8 0), (.int .u8 0), (.int .u8 0), (.int .u8 0), (.int .u64 0)] false 0))) fun h10 =>
      (stB 34 p9.1.1 h10 (some (nwA p9.2))).bind fun h11 =>
      ((bif p9.1.2.1 then
          ((ldT (.int .u64) h11 (some (fa (nwA p9.2) 33))).bind fun x12 =>
          (ldT (.int .u64) h11 (some (fa (nwA h3) 33))).bind fun x13 =>
          some (((decide (x12 = x13)), ()), h11))
        else
          (some ((false, ()), h11))) : Option ((Bool × Unit) × Heap)).bind fun a14 =>
      bif a14.1.1 then
        ((u0).bind fun q15 =>
        (ldT .any a14.2 (some (fa q15 1))).bind fun x16 =>
        (ldT (.int .i64) a14.2 (some (fa (nwA h3) 0))).bind fun x17 =>
        (ixB 1 x16 x17).bind fun q18 =>
        (stB 1 (.bool false) a14.2 (some q18)).bind fun h19 =>
        some (((IntKind.i64.wrap (v1 + 1)), ()), h19))
      else
        (some ((v1, ()), a14.2))) : Option ((Int × Unit) × Heap)).bind fun a20 =>
    some (.inl ((a20.1.1, ((IntKind.i64.wrap (v2 + 1)), ())), a20.2)))
  else
    (some (.inr ((v1, ()), h3)))
noncomputable def sf_cache_Cache_Drop (n : Nat) : Sf := sfOf [(k_cache_Cache_Get, s_cache_Cache_Get n)]
noncomputable def it_cache_Cache_Drop (n : Nat) : It := itOf []
def f_cache_Cache_Drop (n : Nat) (u0 : Option Addr) (u1 : Value) (h : Heap) : Option ((Int × Unit) × Heap) :=
  (lenB u1).bind fun n0 =>
  loopT (fun a => f_cache_Cache_Drop_L21 n u1 u0 n0 a.1.1 a.1.2.1 a.2) n ((0, (0, ())), h)
def rs_cache_Cache_Drop : Rs := [(.tmp 4, (.int .i64))]
def ps_cache_Cache_Drop : List Ty := [.ptr, .any]
theorem e_cache_Cache_Drop (n : Nat) (u0 : Option Addr) (u1 : Value) (h : Heap) : f_cache_Cache_Drop n u0 u1 h = fB (sf_cache_Cache_Drop n) (it_cache_Cache_Drop n) n c2_cache_Cache_Drop rs_cache_Cache_Drop ps_cache_Cache_Drop (u0, (u1, ())) h := by kernel_rfl
noncomputable def s_cache_Cache_Drop (n : Nat) : Sf1 := mkSf ps_cache_Cache_Drop rs_cache_Cache_Drop fun a h => f_cache_Cache_Drop n a.1 a.2.1 h

/- (*wicket/cache.Cache).Last -/
def c2_cache_Cache_Last : C2 :=
  .seq (.reg [(⟨(some 2), .move (.const (.int .u64 0)), none⟩, (.int .u64)),
      (⟨(some 3), .move (.const (.bool false)), none⟩, .bool)]) <|
  .seq (.seq (.reg [(⟨(some 4), .move (.tmp 0), none⟩, .ptr),
        (⟨(some 5), .eqv false .ptr (.tmp 4) (.const (.pointer none)), none⟩, .bool)]) <|
    .cond (.tmp 5)
      (.seq (.reg [(⟨(some 2), .move (.const (.int .u64 0)), none⟩, (.int .u64)),
          (⟨(some 3), .move (.const (.bool false)), none⟩, .bool)]) <|
      .ret)
      (.skip)) <|
  .seq (.regd [(⟨0, [], false, ⟨(some 6), .move (.tmp 0), none⟩⟩, .ptr),
      (⟨1, [0], false, ⟨(some 7), .nilCheck (.tmp 6), none⟩⟩, .ptr),
      (⟨2, [1, 0], false, ⟨(some 8), .fieldAddr 2 (.tmp 7), none⟩⟩, .ptr),
      (⟨3, [2, 1, 0], false, ⟨(some 9), .load false 1 (.tmp 8), none⟩⟩, (.int .u64)),
      (⟨4, [], false, ⟨(some 10), .move (.tmp 0), none⟩⟩, .ptr),
      (⟨5, [4], false, ⟨(some 11), .nilCheck (.tmp 10), none⟩⟩, .ptr),
      (⟨6, [5, 4], false, ⟨(some 12), .fieldAddr 3 (.tmp 11), none⟩⟩, .ptr),
      (⟨7, [6, 5, 4], false, ⟨(some 13), .load false 1 (.tmp 12), none⟩⟩, .bool),
      (⟨8, [3, 0, 1, 2], false, ⟨(some 2), .move (.tmp 9), none⟩⟩, (.int .u64)),
      (⟨9, [7, 8, 0, 1, 2, 3, 4, 5, 6], false, ⟨(some 3), .move (.tmp 13), none⟩⟩, .bool)]) <|
  .ret
noncomputable def sf_cache_Cache_Last (n : Nat) : Sf := sfOf []
noncomputable def it_cache_Cache_Last (n : Nat) : It := itOf []
def f_cache_Cache_Last (n : Nat) (u0 : Option Addr) (h : Heap) : Option ((Int × Bool × Unit) × Heap) :=
  bif (Option.isNone u0) then
    (some ((0, (false, ())), h))
  else
    ((u0).bind fun q0 =>
    (ldT (.int .u64) h (some (fa q0 2))).bind fun x1 =>
    (u0).bind fun q2 =>
    (ldT .bool h (some (fa q2 3))).bind fun x3 =>
    some ((x1, (x3, ())), h))
def rs_cache_Cache_Last : Rs := [(.tmp 2, (.int .u64)), (.tmp 3, .bool)]
def ps_cache_Cache_Last : List Ty := [.ptr]
theorem e_cache_Cache_Last (n : Nat) (u0 : Option Addr) (h : Heap) : f_cache_Cache_Last n u0 h = fB (sf_cache_Cache_Last n) (it_cache_Cache_Last n) n c2_cache_Cache_Last rs_cache_Cache_Last ps_cache_Cache_Last (u0, ()) h := by kernel_rfl
noncomputable def s_cache_Cache_Last (n : Nat) : Sf1 := mkSf ps_cache_Cache_Last rs_cache_Cache_Last fun a h => f_cache_Cache_Last n a.1 h

/- wicket/wicketlaw17.plain -/
def c2_wicketlaw17_plain : C2 :=
  .seq (.reg [(⟨(some 2), .move (.const (.slice none 0 0)), none⟩, .any)]) <|
  .seq (.reg [(⟨(some 3), .move (.const (.slice none 0 0)), none⟩, .any)]) <|
  .seq (.seq (.reg [(⟨(some 4), .move (.const (.int .i64 0)), none⟩, (.int .i64))]) <|
    .block 0 <|
      .loop [(3, .any), (4, (.int .i64))] <|
        .seq (.seq (.reg [(⟨(some 5), .move (.tmp 4), none⟩, (.int .i64)),
              (⟨(some 6), .move (.tmp 0), none⟩, .any),
              (⟨(some 7), .lenS (.tmp 6), none⟩, (.int .i64)),
              (⟨(some 8), .bin .lss (.tmp 5) (.tmp 7), none⟩, .bool)]) <|
          .cond (.tmp 8)
            (.skip)
            (.exit 0)) <|
        .seq (.block 1 <|
            .regd [(⟨0, [], false, ⟨(some 11), .move (.tmp 3), none⟩⟩, .any),
              (⟨1, [], false, ⟨(some 12), .move (.tmp 0), none⟩⟩, .any),
              (⟨2, [], false, ⟨(some 13), .move (.tmp 4), none⟩⟩, (.int .i64)),
              (⟨3, [1, 2], false, ⟨(some 14), .idxSlice 34 (.tmp 12) (.tmp 13), none⟩⟩, .ptr),
              (⟨4, [3, 1, 2], false, ⟨(some 15), .fieldAddr 0 (.tmp 14), none⟩⟩, .ptr),
              (⟨5, [4, 3, 1, 2], false, ⟨(some 16), .load false 1 (.tmp 15), none⟩⟩, (.int .i64)),
              (⟨6, [], false, ⟨(some 17), .move (.tmp 0), none⟩⟩, .any),
              (⟨7, [], false, ⟨(some 18), .move (.tmp 4), none⟩⟩, (.int .i64)),
              (⟨8, [6, 7], false, ⟨(some 19), .idxSlice 34 (.tmp 17) (.tmp 18), none⟩⟩, .ptr),
              (⟨9, [8, 6, 7], false, ⟨(some 20), .fieldAddr 1 (.tmp 19), none⟩⟩, .ptr),
              (⟨10, [9, 8, 6, 7], false, ⟨(some 21), .load true 32 (.tmp 20), none⟩⟩, .any),
              (⟨11, [], false, ⟨(some 22), .move (.tmp 0), none⟩⟩, .any),
              (⟨12, [], false, ⟨(some 23), .move (.tmp 4), none⟩⟩, (.int .i64)),
              (⟨13, [11, 12], false, ⟨(some 24), .idxSlice 34 (.tmp 22) (.tmp 23), none⟩⟩, .ptr),
              (⟨14, [13, 11, 12], false, ⟨(some 25), .fieldAddr 33 (.tmp 24), none⟩⟩, .ptr),
              (⟨15, [14, 13, 11, 12], false, ⟨(some 26), .load false 1 (.tmp 25), none⟩⟩, (.int .u64)),
              (⟨16, [5, 10, 15, 4, 3, 1, 2, 9, 8, 6, 7, 14, 13, 11, 12], false, ⟨(some 27), .build [(.int .i64 0), (.int .u8 0), (.int .u8 0), (.int .u8 0), (.int .u8 0), (.int .u8 0), (.int .u8 0), (.int .u8 0), (.int .u8 0), (.int .u8 0), (.int .u8 0), (.int .u8 0), (.int .u8 0), (.int .u8 0), (.int .u8 0), (.int .u8 0), (.int .u8 0), (.int .u8 0), (.int .u8 0), (.int .u8 0), (.int .u8 0), (.int .u8 0), (.int .u8 0), (.int .u8 0), (.int .u8 0), (.int .u8 0), (.int .u8 0), (.int .u8 0), (.int .u8 0), (.int .u8 0), (.int .u8 0), (.int .u8 0), (.int .u8 0), (.int .u64 0)] [(0, 1, (.tmp 16)), (1, 32, (.tmp 21)), (33, 1, (.tmp 26))], none⟩⟩, .any),
              (⟨17, [16, 5, 10, 15, 4, 3, 1, 2, 9, 8, 6, 7, 14, 13, 11, 12], false, ⟨(some 28), .buildSlice 1 34 [(.int .i64 0), (.int .u8 0), (.int .u8 0), (.int .u8 0), (.int .u8 0), (.int .u8 0), (.int .u8 0), (.int .u8 0), (.int .u8 0), (.int .u8 0), (.int .u8 0), (.int .u8 0), (.int .u8 0), (.int .u8 0), (.int .u8 0), (.int .u8 0), (.int .u8 0), (.int .u8 0), (.int .u8 0), (.int .u8 0), (.int .u8 0), (.int .u8 0), (.int .u8 0), (.int .u8 0), (.int .u8 0), (.int .u8 0), (.int .u8 0), (.int .u8 0), (.int .u8 0), (.int .u8 0), (.int .u8 0), (.int .u8 0), (.int .u8 0), (.int .u64 0)] [(0, 34, (.tmp 27))], none⟩⟩, .any),
              (⟨18, [0, 17, 16, 5, 10, 15, 4, 3, 1, 2, 9, 8, 6, 7, 14, 13, 11, 12], true, ⟨(some 29), .append 48 34 (.tmp 11) (.tmp 28), none⟩⟩, .any),
              (⟨19, [18, 0, 1, 2, 3, 4, 5, 6, 7, 8, 9, 10, 11, 12, 13, 14, 15, 16, 17], true, ⟨(some 3), .move (.tmp 29), none⟩⟩, .any)]) <|
        .reg [(⟨(some 9), .move (.tmp 4), none⟩, (.int .i64)),
          (⟨(some 10), .bin .add (.tmp 9) (.const (.int .i64 1)), none⟩, (.int .i64)),
          (⟨(some 4), .move (.tmp 10), none⟩, (.int .i64))]) <|
  .seq (.reg [(⟨(some 30), .move (.tmp 3), none⟩, .any),
      (⟨(some 2), .move (.tmp 30), none⟩, .any)]) <|
  .ret
def f_wicketlaw17_plain_L14 (n : Nat) (u0 : Value) (v0 : Value) (v1 : Int) (h2 : Heap) : Option (((Value × Int × Unit) × Heap) ⊕ ((Value × Unit) × Heap)) :=
  (lenB u0).bind fun n3 =>
  bif (decide (v1 < (n3 : Int))) then
    ((ixB 34 u0 v1).bind fun q4 =>
    (ldT (.int .i64) h2 (some (fa q4 0))).bind fun x5 =>
    (ixB 34 u0 v1).bind fun q6 =>
    (ldA 32 h2 (some (fa q6 1))).bind fun cs7 =>
    (ixB 34 u0 v1).bind fun q8 =>
    (ldT (.int .u64) h2 (some (fa q8 33))).bind fun x9 =>
    (fillL [(.int .i64 0), (.int .u8 0), (.int .u8 0), (.int .u8 0), (.int .u8 0), (.int .u8 0), (.int .u8 0), (.int .u8 0), (.int .u8 0), (.int .u8 0), (.int .u8 0), (.int .u8 0), (.int .u8 0), (.int .u8 0), (.int .u8 0), (.int .u8 0), (.int .u8 0), (.int .u8 0), (.int .u8 0), (.int .u8 0), (.int .u8 0), (.int .u8 0), (.int .u8 0), (.int .u8 0), (.int .u8 0), (.int .u8 0), (.int .u8 0), (.int .u8 0), (.int .u8 0), (.int .u8 0), (.int .u8 0), (.int .u8 0), (.int .u8 0), (.int .u64 0)] [(0, 1, (.int .i64 x5)), (1, 32, (.agg ⟨cs7⟩)), (33, 1, (.int .u64 x9))]).bind fun cs10 =>
    (fillL [(.int .i64 0), (.int .u8 0), (.int .u8 0), (.int .u8 0), (.int .u8 0), (.int .u8 0), (.int .u8 0), (.int .u8 0), (.int .u8 0), (.int .u8 0), (.int .u8 0), (.int .u8 0), (.int .u8 0), (.int .u8 0), (.int .u8 0), (.int .u8 0), (.int .u8 0), (.int .u8 0), (.int .u8 0), (.int .u8 0), (.int .u8 0), (.int .u8 0), (.int .u8 0), (.int .u8 0), (.int .u8 0), (.int .u8 0), (.int .u8 0), (.int .u8 0), (.int .u8 0), (.int .u8 0), (.int .u8 0), (.int .u8 0), (.int .u8 0), (.int .u64 0)] [(0, 34, (.agg ⟨cs10⟩))]).bind fun cs11 =>
    bnd ((Heap.new h2 (.cells cs11 false 34))) fun h12 =>
    (appendK h12 48 34 v0 (.slice (some ⟨Heap.next h2, 0, some 0⟩) 1 1)).bind fun p13 =>
    some (.inl ((p13.1, ((IntKind.i64.wrap (v1 + 1)), ())), p13.2)))
  else
    (Option.map Sum.inr (bif !isTuple v0 then
      (some ((v0, ()), h2))
    else
      (none)))
noncomputable def sf_wicketlaw17_plain (n : Nat) : Sf := sfOf []
noncomputable def it_wicketlaw17_plain (n : Nat) : It := itOf []
def f_wicketlaw17_plain (n : Nat) (u0 : Value) (h : Heap) : Option ((Value × Unit) × Heap) :=
  loopT (fun a => f_wicketlaw17_plain_L14 n u0 a.1.1 a.1.2.1 a.2) n (((.slice none 0 0), (0, ())), h)
def rs_wicketlaw17_plain : Rs := [(.tmp 2, .any)]
def ps_wicketlaw17_plain : List Ty := [.any]
theorem e_wicketlaw17_plain (n : Nat) (u0 : Value) (h : Heap) : f_wicketlaw17_plain n u0 h = fB (sf_wicketlaw17_plain n) (it_wicketlaw17_plain n) n c2_wicketlaw17_plain rs_wicketlaw17_plain ps_wicketlaw17_plain (u0, ()) h := by kernel_rfl
noncomputable def s_wicketlaw17_plain (n : Nat) : Sf1 := mkSf ps_wicketlaw17_plain rs_wicketlaw17_plain fun a h => f_wicketlaw17_plain n a.1 h

/- (*wicket/cache.Cache).All$1 -/
def c2_cache_Cache_All_1 : C2 :=
  .seq (.seq (.reg [(⟨(some 5), .load false 1 (.tmp 1), none⟩, .ptr),
        (⟨(some 6), .eqv false .ptr (.tmp 5) (.const (.pointer none)), none⟩, .bool)]) <|
    .cond (.tmp 6)
      (.ret)
      (.skip)) <|
  .seq (.reg [(⟨(some 7), .load false 1 (.tmp 1), none⟩, .ptr),
      (⟨(some 8), .nilCheck (.tmp 7), none⟩, .ptr),
      (⟨(some 9), .fieldAddr 0 (.tmp 8), none⟩, .ptr),
      (⟨(some 10), .load false 1 (.tmp 9), none⟩, .any),
      (⟨(some 11), .lenS (.tmp 10), none⟩, (.int .i64)),
      (⟨(some 12), .move (.const (.int .i64 0)), none⟩, (.int .i64))]) <|
  .block 0 <|
    .loop [(12, (.int .i64))] <|
      .seq (.reg [(⟨(some 13), .bin .lss (.tmp 12) (.tmp 11), none⟩, .any)]) <|
      .seq (.cond (.tmp 13)
          (.skip)
          (.exit 0)) <|
      .seq (.block 1 <|
          .seq (.reg [(⟨(some 14), .move (.tmp 12), none⟩, (.int .i64)),
              (⟨(some 15), .idxSlice 34 (.tmp 10) (.tmp 12), none⟩, .ptr),
              (⟨(some 16), .load true 34 (.tmp 15), none⟩, .any),
              (⟨(some 4), .alloc [(.int .i64 0), (.int .u8 0), (.int .u8 0), (.int .u8 0), (.int .u8 0), (.int .u8 0), (.int .u8 0), (.int .u8 0), (.int .u8 0), (.int .u8 0), (.int .u8 0), (.int .u8 0), (.int .u8 0), (.int .u8 0), (.int .u8 0), (.int .u8 0), (.int .u8 0), (.int .u8 0), (.int .u8 0), (.int .u8 0), (.int .u8 0), (.int .u8 0), (.int .u8 0), (.int .u8 0), (.int .u8 0), (.int .u8 0), (.int .u8 0), (.int .u8 0), (.int .u8 0), (.int .u8 0), (.int .u8 0), (.int .u8 0), (.int .u8 0), (.int .u64 0)], none⟩, .ptr),
              (⟨(some 3), .move (.tmp 14), none⟩, (.int .i64)),
              (⟨none, .store 34 (.tmp 4) (.tmp 16), none⟩, .any)]) <|
          .seq (.cutn [(29, .bool)] <|
              .reg [(⟨(some 17), .load false 1 (.tmp 1), none⟩, .ptr),
                (⟨(some 18), .nilCheck (.tmp 17), none⟩, .ptr),
                (⟨(some 19), .fieldAddr 1 (.tmp 18), none⟩, .ptr),
                (⟨(some 20), .load false 1 (.tmp 19), none⟩, .any),
                (⟨(some 21), .move (.tmp 3), none⟩, (.int .i64)),
                (⟨(some 22), .idxSlice 1 (.tmp 20) (.tmp 21), none⟩, .ptr),
                (⟨(some 23), .load false 1 (.tmp 22), none⟩, .bool),
                (⟨(some 24), .move (.tmp 23), none⟩, .bool),
                (⟨(some 25), .move (.tmp 0), some (24, true)⟩, .any),
                (⟨(some 26), .load true 34 (.tmp 4), some (24, true)⟩, .any),
                (⟨(some 27), .callv (.tmp 25) [(.tmp 26)], some (24, true)⟩, .bool),
                (⟨(some 28), .un .not (.tmp 27), some (24, true)⟩, .bool),
                (⟨(some 29), .pick (.tmp 24) (.tmp 28) (.const (.bool false)), none⟩, .bool)]) <|
          .cond (.tmp 29)
            (.ret)
            (.skip)) <|
      .reg [(⟨(some 30), .bin .add (.tmp 12) (.const (.int .i64 1)), none⟩, (.int .i64)),
        (⟨(some 12), .move (.tmp 30), none⟩, (.int .i64))]
def f_cache_Cache_All_1_L20 {V : Type} (hp : V → Heap) (up : V → Heap → V) (y : (Value × Unit) → V → Option (Bool × V)) (n : Nat) (u0 : Option Addr) (x3 : Value) (n4 : Nat) (v5 : Int) (w6 : V) : Option (((Int × Unit) × V) ⊕ (V)) :=
  bif (decide (v5 < (n4 : Int))) then
    ((ixB 34 x3 v5).bind fun q7 =>
    (ldA 34 (hp w6) (some q7)).bind fun cs8 =>
    bnd ((up w6 (Heap.new (hp w6) (.cells [(.int .i64 0), (.int .u8 0), (.int .u8 0), (.int .u8 0), (.int .u8 0), (.int .u8 0), (.int .u8 0), (.int .u8 0), (.int .u8 0), (.int .u8 0), (.int .u8 0), (.int .u8 0), (.int .u8 0), (.int .u8 0), (.int .u8 0), (.int .u8 0), (.int .u8 0), (.int .u8 0), (.int .u8 0), (.int .u8 0), (.int .u8 0), (.int .u8 0), (.int .u8 0), (.int .u8 0), (.int .u8 0), (.int .u8 0), (.int .u8 0), (.int .u8 0), (.int .u8 0), (.int .u8 0), (.int .u8 0), (.int .u8 0), (.int .u8 0), (.int .u64 0)] false 0)))) fun w9 =>
    (stB 34 (.agg ⟨cs8⟩) (hp w9) (some (nwA (hp w6)))).bind fun h10 =>
    bnd ((up w9 h10)) fun w11 =>
    (((ldT .ptr (hp w11) u0).bind fun x12 =>
      (x12).bind fun q13 =>
      (ldT .any (hp w11) (some (fa q13 1))).bind fun x14 =>
      (ixB 1 x14 v5).bind fun q15 =>
      (ldT .bool (hp w11) (some q15)).bind fun x16 =>
      bif x16 then
        ((ldA 34 (hp w11) (some (nwA (hp w6)))).bind fun cs17 =>
        (y ((.agg ⟨cs17⟩), ()) w11).bind fun p18 =>
        some (((!p18.1), ()), p18.2))
      else
        (some ((false, ()), w11))) : Option ((Bool × Unit) × V)).bind fun a19 =>
    bif a19.1.1 then
      (some (.inr a19.2))
    else
      (some (.inl (((IntKind.i64.wrap (v5 + 1)), ()), a19.2))))
  else
    (some (.inr w6))
noncomputable def sf_cache_Cache_All_1 (n : Nat) : Sf := sfOf []
noncomputable def it_cache_Cache_All_1 (n : Nat) : It := itOf []
def f_cache_Cache_All_1 {V : Type} (hp : V → Heap) (up : V → Heap → V) (y : (Value × Unit) → V → Option (Bool × V)) (n : Nat) (u0 : Option Addr) (w : V) : Option V :=
  (ldT .ptr (hp w) u0).bind fun x0 =>
  bif (Option.isNone x0) then
    (some w)
  else
    ((ldT .ptr (hp w) u0).bind fun x1 =>
    (x1).bind fun q2 =>
    (ldT .any (hp w) (some (fa q2 0))).bind fun x3 =>
    (lenB x3).bind fun n4 =>
    loopT (fun a => f_cache_Cache_All_1_L20 hp up y n u0 x3 n4 a.1.1 a.2) n ((0, ()), w))
theorem e_cache_Cache_All_1 {V : Type} (hp : V → Heap) (up : V → Heap → V) (y : (Value × Unit) → V → Option (Bool × V)) (n : Nat) (u0 : Option Addr) (w : V) : f_cache_Cache_All_1 hp up y n u0 w = fI (sf_cache_Cache_All_1 n) (it_cache_Cache_All_1 n) n c2_cache_Cache_All_1 [] [.ptr] [.any] hp up y () (u0, ()) w := by kernel_rfl
noncomputable def i_cache_Cache_All_1 (n : Nat) : It1 := mkIt [] [.ptr] [.any] fun hp up y _ a2 v => f_cache_Cache_All_1 hp up y n a2.1 v

/- (*wicket/cache.Cache).All -/
def c2_cache_Cache_All : C2 :=
  .seq (.reg [(⟨(some 1), .box (.tmp 0), none⟩, .ptr),
      (⟨(some 2), .move (.const .nilFunc), none⟩, (.fn k_cache_Cache_All_1 1))]) <|
  .seq (.reg [(⟨(some 3), .makeFunc k_cache_Cache_All_1 [] [(.tmp 1)], none⟩, (.fn k_cache_Cache_All_1 1)),
      (⟨(some 2), .move (.tmp 3), none⟩, (.fn k_cache_Cache_All_1 1))]) <|
  .ret
noncomputable def sf_cache_Cache_All (n : Nat) : Sf := sfOf []
noncomputable def it_cache_Cache_All (n : Nat) : It := itOf []
def f_cache_Cache_All (n : Nat) (u0 : Option Addr) (h : Heap) : Option ((Ptrs 1 × Unit) × Heap) :=
  bnd ((Heap.new h (.cells [(.pointer u0)] false 0))) fun h0 =>
  some ((((some (nwA h)), ()), ()), h0)
def rs_cache_Cache_All : Rs := [(.tmp 2, (.fn k_cache_Cache_All_1 1))]
def ps_cache_Cache_All : List Ty := [.ptr]
theorem e_cache_Cache_All (n : Nat) (u0 : Option Addr) (h : Heap) : f_cache_Cache_All n u0 h = fB (sf_cache_Cache_All n) (it_cache_Cache_All n) n c2_cache_Cache_All rs_cache_Cache_All ps_cache_Cache_All (u0, ()) h := by kernel_rfl
noncomputable def s_cache_Cache_All (n : Nat) : Sf1 := mkSf ps_cache_Cache_All rs_cache_Cache_All fun a h => f_cache_Cache_All n a.1 h

/- (*wicket/cache.Cache).Entries -/
def c2_cache_Cache_Entries : C2 :=
  .seq (.reg [(⟨(some 2), .move (.const (.slice none 0 0)), none⟩, .any)]) <|
  .seq (.reg [(⟨(some 3), .alloc [(.slice none 0 0)], none⟩, .ptr)]) <|
  .seq (.seq (.reg [(⟨(some 5), .move (.tmp 0), none⟩, .ptr),
        (⟨(some 6), .call k_cache_Cache_All [(.tmp 5)], none⟩, (.fn k_cache_Cache_All_1 1))]) <|
    .block 0 <|
      .range (.tmp 6) [7] []
        (.reg [(⟨(some 4), .alloc [(.int .i64 0), (.int .u8 0), (.int .u8 0), (.int .u8 0), (.int .u8 0), (.int .u8 0), (.int .u8 0), (.int .u8 0), (.int .u8 0), (.int .u8 0), (.int .u8 0), (.int .u8 0), (.int .u8 0), (.int .u8 0), (.int .u8 0), (.int .u8 0), (.int .u8 0), (.int .u8 0), (.int .u8 0), (.int .u8 0), (.int .u8 0), (.int .u8 0), (.int .u8 0), (.int .u8 0), (.int .u8 0), (.int .u8 0), (.int .u8 0), (.int .u8 0), (.int .u8 0), (.int .u8 0), (.int .u8 0), (.int .u8 0), (.int .u8 0), (.int .u64 0)], none⟩, .ptr),
          (⟨none, .store 34 (.tmp 4) (.tmp 7), none⟩, .any)])
        (.block 1 <|
          .reg [(⟨(some 8), .load false 1 (.tmp 3), none⟩, .any),
            (⟨(some 9), .load true 34 (.tmp 4), none⟩, .any),
            (⟨(some 10), .buildSlice 1 34 [(.int .i64 0), (.int .u8 0), (.int .u8 0), (.int .u8 0), (.int .u8 0), (.int .u8 0), (.int .u8 0), (.int .u8 0), (.int .u8 0), (.int .u8 0), (.int .u8 0), (.int .u8 0), (.int .u8 0), (.int .u8 0), (.int .u8 0), (.int .u8 0), (.int .u8 0), (.int .u8 0), (.int .u8 0), (.int .u8 0), (.int .u8 0), (.int .u8 0), (.int .u8 0), (.int .u8 0), (.int .u8 0), (.int .u8 0), (.int .u8 0), (.int .u8 0), (.int .u8 0), (.int .u8 0), (.int .u8 0), (.int .u8 0), (.int .u8 0), (.int .u64 0)] [(0, 34, (.tmp 9))], none⟩, .any),
            (⟨(some 11), .append 48 34 (.tmp 8) (.tmp 10), none⟩, .any),
            (⟨none, .store 1 (.tmp 3) (.tmp 11), none⟩, .any)])) <|
  .seq (.reg [(⟨(some 12), .load false 1 (.tmp 3), none⟩, .any),
      (⟨(some 2), .move (.tmp 12), none⟩, .any)]) <|
  .ret
def f_cache_Cache_Entries_B12 (n : Nat) (h : Heap) (y2 : Value) (v3 : (Heap × Nat)) : Option (Bool × (Heap × Nat)) :=
  bif Nat.beq v3.2 0 then
    (bnd ((Heap.new v3.1 (.cells [(.int .i64 0), (.int .u8 0), (.int .u8 0), (.int .u8 0), (.int .u8 0), (.int .u8 0), (.int .u8 0), (.int .u8 0), (.int .u8 0), (.int .u8 0), (.int .u8 0), (.int .u8 0), (.int .u8 0), (.int .u8 0), (.int .u8 0), (.int .u8 0), (.int .u8 0), (.int .u8 0), (.int .u8 0), (.int .u8 0), (.int .u8 0), (.int .u8 0), (.int .u8 0), (.int .u8 0), (.int .u8 0), (.int .u8 0), (.int .u8 0), (.int .u8 0), (.int .u8 0), (.int .u8 0), (.int .u8 0), (.int .u8 0), (.int .u8 0), (.int .u64 0)] false 0))) fun h4 =>
    (stB 34 y2 h4 (some (nwA v3.1))).bind fun h5 =>
    (ldT .any h5 (some (nwA h))).bind fun x6 =>
    (ldA 34 h5 (some (nwA v3.1))).bind fun cs7 =>
    (fillL [(.int .i64 0), (.int .u8 0), (.int .u8 0), (.int .u8 0), (.int .u8 0), (.int .u8 0), (.int .u8 0), (.int .u8 0), (.int .u8 0), (.int .u8 0), (.int .u8 0), (.int .u8 0), (.int .u8 0), (.int .u8 0), (.int .u8 0), (.int .u8 0), (.int .u8 0), (.int .u8 0), (.int .u8 0), (.int .u8 0), (.int .u8 0), (.int .u8 0), (.int .u8 0), (.int .u8 0), (.int .u8 0), (.int .u8 0), (.int .u8 0), (.int .u8 0), (.int .u8 0), (.int .u8 0), (.int .u8 0), (.int .u8 0), (.int .u8 0), (.int .u64 0)] [(0, 34, (.agg ⟨cs7⟩))]).bind fun cs8 =>
    bnd ((Heap.new h5 (.cells cs8 false 34))) fun h9 =>
    (appendK h9 48 34 x6 (.slice (some ⟨Heap.next h5, 0, some 0⟩) 1 1)).bind fun p10 =>
    (stB 1 p10.1 p10.2 (some (nwA h))).bind fun h11 =>
    some (true, (h11, 0)))
  else none
noncomputable def sf_cache_Cache_Entries (n : Nat) : Sf := sfOf [(k_cache_Cache_All, s_cache_Cache_All n)]
noncomputable def it_cache_Cache_Entries (n : Nat) : It := itOf [(k_cache_Cache_All_1, i_cache_Cache_All_1 n)]
def f_cache_Cache_Entries (n : Nat) (u0 : Option Addr) (h : Heap) : Option ((Value × Unit) × Heap) :=
  bnd ((Heap.new h (.cells [(.slice none 0 0)] false 0))) fun h0 =>
  (f_cache_Cache_All n u0 h0).bind fun p1 =>
  (f_cache_Cache_All_1 (V := (Heap × Nat)) (fun v => v.1) (fun v h => (h, v.2)) (fun a v => f_cache_Cache_Entries_B12 n h a.1 v) n p1.1.1.1 ((Heap.hole (Heap.hole p1.2)), 0)).bind fun v13 =>
  bif Nat.beq v13.2 0 then
    ((ldT .any v13.1 (some (nwA h))).bind fun x14 =>
    bif !isTuple x14 then
      (some ((x14, ()), v13.1))
    else
      (none))
  else
    (none)
def rs_cache_Cache_Entries : Rs := [(.tmp 2, .any)]
def ps_cache_Cache_Entries : List Ty := [.ptr]
theorem e_cache_Cache_Entries (n : Nat) (u0 : Option Addr) (h : Heap) : f_cache_Cache_Entries n u0 h = fB (sf_cache_Cache_Entries n) (it_cache_Cache_Entries n) n c2_cache_Cache_Entries rs_cache_Cache_Entries ps_cache_Cache_Entries (u0, ()) h := by kernel_rfl
noncomputable def s_cache_Cache_Entries (n : Nat) : Sf1 := mkSf ps_cache_Cache_Entries rs_cache_Cache_Entries fun a h => f_cache_Cache_Entries n a.1 h

/- (*wicket/cache.Cache).Len -/
def c2_cache_Cache_Len : C2 :=
  .seq (.reg [(⟨(some 2), .move (.const (.int .i64 0)), none⟩, (.int .i64))]) <|
  .seq (.reg [(⟨(some 3), .move (.tmp 0), none⟩, .ptr),
      (⟨(some 4), .call k_cache_Cache_Entries [(.tmp 3)], none⟩, .any),
      (⟨(some 5), .lenS (.tmp 4), none⟩, (.int .i64)),
      (⟨(some 2), .move (.tmp 5), none⟩, (.int .i64))]) <|
  .ret
noncomputable def sf_cache_Cache_Len (n : Nat) : Sf := sfOf [(k_cache_Cache_Entries, s_cache_Cache_Entries n)]
noncomputable def it_cache_Cache_Len (n : Nat) : It := itOf []
def f_cache_Cache_Len (n : Nat) (u0 : Option Addr) (h : Heap) : Option ((Int × Unit) × Heap) :=
  (f_cache_Cache_Entries n u0 h).bind fun p0 =>
  (lenB p0.1.1).bind fun n1 =>
  some (((n1 : Int), ()), p0.2)
def rs_cache_Cache_Len : Rs := [(.tmp 2, (.int .i64))]
def ps_cache_Cache_Len : List Ty := [.ptr]
theorem e_cache_Cache_Len (n : Nat) (u0 : Option Addr) (h : Heap) : f_cache_Cache_Len n u0 h = fB (sf_cache_Cache_Len n) (it_cache_Cache_Len n) n c2_cache_Cache_Len rs_cache_Cache_Len ps_cache_Cache_Len (u0, ()) h := by kernel_rfl
noncomputable def s_cache_Cache_Len (n : Nat) : Sf1 := mkSf ps_cache_Cache_Len rs_cache_Cache_Len fun a h => f_cache_Cache_Len n a.1 h

/- wicket/wicketlaw17.given -/
def c2_wicketlaw17_given : C2 :=
  .seq (.reg [(⟨(some 3), .box (.tmp 1), none⟩, .ptr),
      (⟨(some 4), .move (.const (.slice none 0 0)), none⟩, .any),
      (⟨(some 5), .move (.const (.bool false)), none⟩, .bool)]) <|
  .seq (.reg [(⟨(some 9), .move (.tmp 0), none⟩, .ptr),
      (⟨(some 10), .call k_cache_Cache_All [(.tmp 9)], none⟩, (.fn k_cache_Cache_All_1 1)),
      (⟨(some 6), .move (.tmp 10), none⟩, (.fn k_cache_Cache_All_1 1))]) <|
  .seq (.seq (.reg [(⟨(some 11), .move (.tmp 6), none⟩, (.fn k_cache_Cache_All_1 1)),
        (⟨(some 12), .eqv false .func (.tmp 11) (.const .nilFunc), none⟩, .bool)]) <|
    .cond (.tmp 12)
      (.seq (.reg [(⟨(some 4), .move (.const (.slice none 0 0)), none⟩, .any),
          (⟨(some 5), .move (.const (.bool false)), none⟩, .bool)]) <|
      .ret)
      (.skip)) <|
  .seq (.reg [(⟨(some 7), .alloc [(.slice none 0 0)], none⟩, .ptr)]) <|
  .seq (.cutn [] <|
      .seq (.reg [(⟨(some 13), .move (.tmp 6), none⟩, (.fn k_cache_Cache_All_1 1))]) <|
      .block 0 <|
        .range (.tmp 13) [14] [.exit 0]
          (.reg [(⟨(some 8), .alloc [(.int .i64 0), (.int .u8 0), (.int .u8 0), (.int .u8 0), (.int .u8 0), (.int .u8 0), (.int .u8 0), (.int .u8 0), (.int .u8 0), (.int .u8 0), (.int .u8 0), (.int .u8 0), (.int .u8 0), (.int .u8 0), (.int .u8 0), (.int .u8 0), (.int .u8 0), (.int .u8 0), (.int .u8 0), (.int .u8 0), (.int .u8 0), (.int .u8 0), (.int .u8 0), (.int .u8 0), (.int .u8 0), (.int .u8 0), (.int .u8 0), (.int .u8 0), (.int .u8 0), (.int .u8 0), (.int .u8 0), (.int .u8 0), (.int .u8 0), (.int .u64 0)], none⟩, .ptr),
            (⟨none, .store 34 (.tmp 8) (.tmp 14), none⟩, .any)])
          (.block 1 <|
            .seq (.seq (.reg [(⟨(some 15), .load false 1 (.tmp 7), none⟩, .any),
                  (⟨(some 16), .lenS (.tmp 15), none⟩, (.int .i64)),
                  (⟨(some 17), .load false 1 (.tmp 3), none⟩, (.int .i64)),
                  (⟨(some 18), .bin .geq (.tmp 16) (.tmp 17), none⟩, .bool)]) <|
              .cond (.tmp 18)
                (.exit 0)
                (.skip)) <|
            .reg [(⟨(some 19), .load false 1 (.tmp 7), none⟩, .any),
              (⟨(some 20), .load true 34 (.tmp 8), none⟩, .any),
              (⟨(some 21), .buildSlice 1 34 [(.int .i64 0), (.int .u8 0), (.int .u8 0), (.int .u8 0), (.int .u8 0), (.int .u8 0), (.int .u8 0), (.int .u8 0), (.int .u8 0), (.int .u8 0), (.int .u8 0), (.int .u8 0), (.int .u8 0), (.int .u8 0), (.int .u8 0), (.int .u8 0), (.int .u8 0), (.int .u8 0), (.int .u8 0), (.int .u8 0), (.int .u8 0), (.int .u8 0), (.int .u8 0), (.int .u8 0), (.int .u8 0), (.int .u8 0), (.int .u8 0), (.int .u8 0), (.int .u8 0), (.int .u8 0), (.int .u8 0), (.int .u8 0), (.int .u8 0), (.int .u64 0)] [(0, 34, (.tmp 20))], none⟩, .any),
              (⟨(some 22), .append 48 34 (.tmp 19) (.tmp 21), none⟩, .any),
              (⟨none, .store 1 (.tmp 7) (.tmp 22), none⟩, .any)])) <|
  .seq (.reg [(⟨(some 23), .load false 1 (.tmp 7), none⟩, .any),
      (⟨(some 24), .call k_wicketlaw17_plain [(.tmp 23)], none⟩, .any),
      (⟨(some 4), .move (.tmp 24), none⟩, .any),
      (⟨(some 5), .move (.const (.bool true)), none⟩, .bool)]) <|
  .ret
def f_wicketlaw17_given_B17 (n : Nat) (h : Heap) (p1 : ((Ptrs 1 × Unit) × Heap)) (y4 : Value) (v5 : (Heap × Nat)) : Option (Bool × (Heap × Nat)) :=
  bif Nat.beq v5.2 0 then
    (bnd ((Heap.new v5.1 (.cells [(.int .i64 0), (.int .u8 0), (.int .u8 0), (.int .u8 0), (.int .u8 0), (.int .u8 0), (.int .u8 0), (.int .u8 0), (.int .u8 0), (.int .u8 0), (.int .u8 0), (.int .u8 0), (.int .u8 0), (.int .u8 0), (.int .u8 0), (.int .u8 0), (.int .u8 0), (.int .u8 0), (.int .u8 0), (.int .u8 0), (.int .u8 0), (.int .u8 0), (.int .u8 0), (.int .u8 0), (.int .u8 0), (.int .u8 0), (.int .u8 0), (.int .u8 0), (.int .u8 0), (.int .u8 0), (.int .u8 0), (.int .u8 0), (.int .u8 0), (.int .u64 0)] false 0))) fun h6 =>
    (stB 34 y4 h6 (some (nwA v5.1))).bind fun h7 =>
    (ldT .any h7 (some (nwA p1.2))).bind fun x8 =>
    (lenB x8).bind fun n9 =>
    (ldT (.int .i64) h7 (some (nwA h))).bind fun x10 =>
    bif (decide (x10 ≤ (n9 : Int))) then
      (some (false, (h7, 1)))
    else
      ((ldT .any h7 (some (nwA p1.2))).bind fun x11 =>
      (ldA 34 h7 (some (nwA v5.1))).bind fun cs12 =>
      (fillL [(.int .i64 0), (.int .u8 0), (.int .u8 0), (.int .u8 0), (.int .u8 0), (.int .u8 0), (.int .u8 0), (.int .u8 0), (.int .u8 0), (.int .u8 0), (.int .u8 0), (.int .u8 0), (.int .u8 0), (.int .u8 0), (.int .u8 0), (.int .u8 0), (.int .u8 0), (.int .u8 0), (.int .u8 0), (.int .u8 0), (.int .u8 0), (.int .u8 0), (.int .u8 0), (.int .u8 0), (.int .u8 0), (.int .u8 0), (.int .u8 0), (.int .u8 0), (.int .u8 0), (.int .u8 0), (.int .u8 0), (.int .u8 0), (.int .u8 0), (.int .u64 0)] [(0, 34, (.agg ⟨cs12⟩))]).bind fun cs13 =>
      bnd ((Heap.new h7 (.cells cs13 false 34))) fun h14 =>
      (appendK h14 48 34 x11 (.slice (some ⟨Heap.next h7, 0, some 0⟩) 1 1)).bind fun p15 =>
      (stB 1 p15.1 p15.2 (some (nwA p1.2))).bind fun h16 =>
      some (true, (h16, 0))))
  else none
noncomputable def sf_wicketlaw17_given (n : Nat) : Sf := sfOf [(k_cache_Cache_All, s_cache_Cache_All n), (k_wicketlaw17_plain, s_wicketlaw17_plain n)]
noncomputable def it_wicketlaw17_given (n : Nat) : It := itOf [(k_cache_Cache_All_1, i_cache_Cache_All_1 n)]
def f_wicketlaw17_given (n : Nat) (u0 : Option Addr) (u1 : Int) (h : Heap) : Option ((Value × Bool × Unit) × Heap) :=
  bnd ((Heap.new h (.cells [(.int .i64 u1)] false 0))) fun h0 =>
  (f_cache_Cache_All n u0 h0).bind fun p1 =>
  (eqVals p1.2 .func (Ty.val (.fn k_cache_Cache_All_1 1) p1.1.1) .nilFunc).bind fun b2 =>
  bif b2 then
    (some (((.slice none 0 0), (false, ())), p1.2))
  else
    (bnd ((Heap.new p1.2 (.cells [(.slice none 0 0)] false 0))) fun h3 =>
    (((f_cache_Cache_All_1 (V := (Heap × Nat)) (fun v => v.1) (fun v h => (h, v.2)) (fun a v => f_wicketlaw17_given_B17 n h p1 a.1 v) n p1.1.1.1 ((Heap.hole (Heap.hole h3)), 0)).bind fun v18 =>
      bif Nat.beq v18.2 0 then
        (some ((), v18.1))
      else
        (bif Nat.beq v18.2 1 then
          (some ((), v18.1))
        else
          (none))) : Option ((Unit) × Heap)).bind fun a19 =>
    (ldT .any a19.2 (some (nwA p1.2))).bind fun x20 =>
    (f_wicketlaw17_plain n x20 a19.2).bind fun p21 =>
    bif !isTuple p21.1.1 then
      (some ((p21.1.1, (true, ())), p21.2))
    else
      (none))
def rs_wicketlaw17_given : Rs := [(.tmp 4, .any), (.tmp 5, .bool)]
def ps_wicketlaw17_given : List Ty := [.ptr, (.int .i64)]
theorem e_wicketlaw17_given (n : Nat) (u0 : Option Addr) (u1 : Int) (h : Heap) : f_wicketlaw17_given n u0 u1 h = fB (sf_wicketlaw17_given n) (it_wicketlaw17_given n) n c2_wicketlaw17_given rs_wicketlaw17_given ps_wicketlaw17_given (u0, (u1, ())) h := by kernel_rfl
noncomputable def s_wicketlaw17_given (n : Nat) : Sf1 := mkSf ps_wicketlaw17_given rs_wicketlaw17_given fun a h => f_wicketlaw17_given n a.1 a.2.1 h

/- wicket/wicketlaw17.CacheDrops -/
def c2_wicketlaw17_CacheDrops : C2 :=
  .seq (.reg [(⟨(some 4), .move (.const (.bool false)), none⟩, .bool)]) <|
  .seq (.seq (.reg [(⟨(some 27), .call k_wicketlaw17_fixed [], none⟩, .bool),
        (⟨(some 28), .un .not (.tmp 27), none⟩, .bool)]) <|
    .cond (.tmp 28)
      (.seq (.reg [(⟨(some 4), .move (.const (.bool false)), none⟩, .bool)]) <|
      .ret)
      (.skip)) <|
  .seq (.reg [(⟨(some 30), .call k_cache_New [(.const (.int .i64 8))], none⟩, .any),
      (⟨(some 29), .move (.tmp 30), none⟩, .any),
      (⟨(some 31), .extract (.tmp 29) 0, none⟩, .ptr),
      (⟨(some 32), .extract (.tmp 29) 1, none⟩, (.int .i64)),
      (⟨(some 5), .move (.tmp 31), none⟩, .ptr),
      (⟨(some 6), .move (.tmp 32), none⟩, (.int .i64))]) <|
  .seq (.seq (.cutn [(38, .bool)] <|
        .reg [(⟨(some 33), .move (.tmp 5), none⟩, .ptr),
          (⟨(some 34), .eqv false .ptr (.tmp 33) (.const (.pointer none)), none⟩, .bool),
          (⟨(some 35), .move (.tmp 34), none⟩, .bool),
          (⟨(some 36), .move (.tmp 6), some (35, false)⟩, (.int .i64)),
          (⟨(some 37), .bin .neq (.tmp 36) (.const (.int .i64 0)), some (35, false)⟩, .bool),
          (⟨(some 38), .pick (.tmp 35) (.const (.bool true)) (.tmp 37), none⟩, .bool)]) <|
    .cond (.tmp 38)
      (.seq (.reg [(⟨(some 4), .move (.const (.bool false)), none⟩, .bool)]) <|
      .ret)
      (.skip)) <|
  .seq (.reg [(⟨(some 39), .move (.tmp 0), none⟩, .any),
      (⟨(some 40), .lenS (.tmp 39), none⟩, (.int .i64)),
      (⟨(some 41), .minmax false [(.tmp 40), (.const (.int .i64 40))], none⟩, (.int .i64)),
      (⟨(some 7), .move (.tmp 41), none⟩, (.int .i64))]) <|
  .seq (.reg [(⟨(some 42), .move (.tmp 1), none⟩, (.int .i64)),
      (⟨(some 43), .minmax true [(.tmp 42), (.const (.int .i64 0))], none⟩, (.int .i64)),
      (⟨(some 44), .move (.tmp 7), none⟩, (.int .i64)),
      (⟨(some 45), .minmax false [(.tmp 43), (.tmp 44)], none⟩, (.int .i64)),
      (⟨(some 1), .move (.tmp 45), none⟩, (.int .i64))]) <|
  .seq (.reg [(⟨(some 8), .move (.const (.slice none 0 0)), none⟩, .any)]) <|
  .seq (.reg [(⟨(some 9), .alloc (List.replicate 8 (.int .i64 0)), none⟩, .ptr)]) <|
  .seq (.reg [(⟨(some 10), .alloc (List.replicate 8 (.bool false)), none⟩, .ptr)]) <|
  .seq (.cut [(8, .any)] <|
      .seq (.reg [(⟨(some 11), .move (.const (.int .i64 0)), none⟩, (.int .i64))]) <|
      .block 0 <|
        .loop [(8, .any), (11, (.int .i64))] <|
          .seq (.seq (.reg [(⟨(some 46), .move (.tmp 11), none⟩, (.int .i64)),
                (⟨(some 47), .move (.tmp 7), none⟩, (.int .i64)),
                (⟨(some 48), .bin .lss (.tmp 46) (.tmp 47), none⟩, .bool)]) <|
            .cond (.tmp 48)
              (.skip)
              (.exit 0)) <|
          .seq (.cut [(8, .any)] <|
              .block 1 <|
                .seq (.cutn [(8, .any)] <|
                    .seq (.reg [(⟨(some 51), .move (.tmp 11), none⟩, (.int .i64)),
                        (⟨(some 52), .move (.tmp 1), none⟩, (.int .i64)),
                        (⟨(some 53), .bin .eql (.tmp 51) (.tmp 52), none⟩, .bool)]) <|
                    .cond (.tmp 53)
                      (.reg [(⟨(some 54), .move (.tmp 5), none⟩, .ptr),
                        (⟨(some 55), .call k_cache_Cache_Entries [(.tmp 54)], none⟩, .any),
                        (⟨(some 8), .move (.tmp 55), none⟩, .any)])
                      (.skip)) <|
                .seq (.reg [(⟨(some 12), .move (.const (.slice none 0 0)), none⟩, .any)]) <|
                .seq (.reg [(⟨(some 56), .move (.tmp 0), none⟩, .any),
                    (⟨(some 57), .move (.tmp 11), none⟩, (.int .i64)),
                    (⟨(some 58), .idxSlice 2 (.tmp 56) (.tmp 57), none⟩, .ptr),
                    (⟨(some 59), .fieldAddr 0 (.tmp 58), none⟩, .ptr),
                    (⟨(some 60), .load false 1 (.tmp 59), none⟩, .any),
                    (⟨(some 61), .call k_wicketlaw17_rising [(.tmp 60), (.const (.int .i64 8))], none⟩, .any),
                    (⟨(some 13), .move (.tmp 61), none⟩, .any)]) <|
                .seq (.cutn [(12, .any)] <|
                    .seq (.reg [(⟨(some 14), .move (.const (.int .i64 0)), none⟩, (.int .i64))]) <|
                    .block 2 <|
                      .loop [(12, .any), (14, (.int .i64))] <|
                        .seq (.seq (.reg [(⟨(some 62), .move (.tmp 14), none⟩, (.int .i64)),
                              (⟨(some 63), .move (.tmp 13), none⟩, .any),
                              (⟨(some 64), .lenS (.tmp 63), none⟩, (.int .i64)),
                              (⟨(some 65), .bin .lss (.tmp 62) (.tmp 64), none⟩, .bool)]) <|
                          .cond (.tmp 65)
                            (.skip)
                            (.exit 2)) <|
                        .seq (.cutn [(12, .any)] <|
                            .block 3 <|
                              .seq (.regd [(⟨0, [], false, ⟨(some 68), .move (.tmp 12), none⟩⟩, .any),
                                  (⟨1, [], false, ⟨(some 69), .move (.tmp 13), none⟩⟩, .any),
                                  (⟨2, [], false, ⟨(some 70), .move (.tmp 14), none⟩⟩, (.int .i64)),
                                  (⟨3, [1, 2], false, ⟨(some 71), .idxSlice 1 (.tmp 69) (.tmp 70), none⟩⟩, .ptr),
                                  (⟨4, [3, 1, 2], false, ⟨(some 72), .load false 1 (.tmp 71), none⟩⟩, (.int .i64)),
                                  (⟨5, [], false, ⟨(some 73), .move (.tmp 0), none⟩⟩, .any),
                                  (⟨6, [], false, ⟨(some 74), .move (.tmp 11), none⟩⟩, (.int .i64)),
                                  (⟨7, [5, 6], false, ⟨(some 75), .idxSlice 2 (.tmp 73) (.tmp 74), none⟩⟩, .ptr),
                                  (⟨8, [7, 5, 6], false, ⟨(some 76), .fieldAddr 1 (.tmp 75), none⟩⟩, .ptr),
                                  (⟨9, [8, 7, 5, 6], false, ⟨(some 77), .load false 1 (.tmp 76), none⟩⟩, (.int .u8)),
                                  (⟨10, [], false, ⟨(some 78), .move (.tmp 13), none⟩⟩, .any),
                                  (⟨11, [], false, ⟨(some 79), .move (.tmp 14), none⟩⟩, (.int .i64)),
                                  (⟨12, [10, 11], false, ⟨(some 80), .idxSlice 1 (.tmp 78) (.tmp 79), none⟩⟩, .ptr),
                                  (⟨13, [12, 10, 11], false, ⟨(some 81), .load false 1 (.tmp 80), none⟩⟩, (.int .i64)),
                                  (⟨14, [9, 13, 8, 7, 5, 6, 12, 10, 11], true, ⟨(some 82), .call k_wicketlaw17_value [(.tmp 77), (.tmp 81)], none⟩⟩, .any),
                                  (⟨15, [4, 14, 3, 1, 2, 9, 13, 8, 7, 5, 6, 12, 10, 11], false, ⟨(some 83), .build [(.int .i64 0), (.int .u8 0), (.int .u8 0), (.int .u8 0), (.int .u8 0), (.int .u8 0), (.int .u8 0), (.int .u8 0), (.int .u8 0), (.int .u8 0), (.int .u8 0), (.int .u8 0), (.int .u8 0), (.int .u8 0), (.int .u8 0), (.int .u8 0), (.int .u8 0), (.int .u8 0), (.int .u8 0), (.int .u8 0), (.int .u8 0), (.int .u8 0), (.int .u8 0), (.int .u8 0), (.int .u8 0), (.int .u8 0), (.int .u8 0), (.int .u8 0), (.int .u8 0), (.int .u8 0), (.int .u8 0), (.int .u8 0), (.int .u8 0)] [(0, 1, (.tmp 72)), (1, 32, (.tmp 82))], none⟩⟩, .any),
                                  (⟨16, [15, 4, 14, 3, 1, 2, 9, 13, 8, 7, 5, 6, 12, 10, 11], false, ⟨(some 84), .buildSlice 1 33 [(.int .i64 0), (.int .u8 0), (.int .u8 0), (.int .u8 0), (.int .u8 0), (.int .u8 0), (.int .u8 0), (.int .u8 0), (.int .u8 0), (.int .u8 0), (.int .u8 0), (.int .u8 0), (.int .u8 0), (.int .u8 0), (.int .u8 0), (.int .u8 0), (.int .u8 0), (.int .u8 0), (.int .u8 0), (.int .u8 0), (.int .u8 0), (.int .u8 0), (.int .u8 0), (.int .u8 0), (.int .u8 0), (.int .u8 0), (.int .u8 0), (.int .u8 0), (.int .u8 0), (.int .u8 0), (.int .u8 0), (.int .u8 0), (.int .u8 0)] [(0, 33, (.tmp 83))], none⟩⟩, .any),
                                  (⟨17, [0, 16, 14, 15, 4, 3, 1, 2, 9, 13, 8, 7, 5, 6, 12, 10, 11], true, ⟨(some 85), .append 40 33 (.tmp 68) (.tmp 84), none⟩⟩, .any),
                                  (⟨18, [17, 0, 1, 2, 3, 4, 5, 6, 7, 8, 9, 10, 11, 12, 13, 14, 15, 16], true, ⟨(some 12), .move (.tmp 85), none⟩⟩, .any)]) <|
                              .seq (.reg [(⟨(some 86), .move (.tmp 13), none⟩, .any),
                                  (⟨(some 87), .move (.tmp 14), none⟩, (.int .i64)),
                                  (⟨(some 88), .idxSlice 1 (.tmp 86) (.tmp 87), none⟩, .ptr),
                                  (⟨(some 89), .load false 1 (.tmp 88), none⟩, (.int .i64)),
                                  (⟨(some 90), .move (.tmp 11), none⟩, (.int .i64)),
                                  (⟨(some 91), .bin .add (.tmp 90) (.const (.int .i64 1)), none⟩, (.int .i64)),
                                  (⟨(some 92), .idxArr 8 1 (.tmp 9) (.tmp 89), none⟩, .ptr),
                                  (⟨none, .store 1 (.tmp 92) (.tmp 91), none⟩, .any)]) <|
                              .regd [(⟨0, [], false, ⟨(some 93), .move (.tmp 13), none⟩⟩, .any),
                                (⟨1, [], false, ⟨(some 94), .move (.tmp 14), none⟩⟩, (.int .i64)),
                                (⟨2, [0, 1], false, ⟨(some 95), .idxSlice 1 (.tmp 93) (.tmp 94), none⟩⟩, .ptr),
                                (⟨3, [2, 0, 1], false, ⟨(some 96), .load false 1 (.tmp 95), none⟩⟩, (.int .i64)),
                                (⟨4, [], false, ⟨(some 97), .move (.tmp 13), none⟩⟩, .any),
                                (⟨5, [], false, ⟨(some 98), .move (.tmp 14), none⟩⟩, (.int .i64)),
                                (⟨6, [4, 5], false, ⟨(some 99), .idxSlice 1 (.tmp 97) (.tmp 98), none⟩⟩, .ptr),
                                (⟨7, [6, 4, 5], false, ⟨(some 100), .load false 1 (.tmp 99), none⟩⟩, (.int .i64)),
                                (⟨8, [7, 6, 4, 5], false, ⟨(some 101), .idxArr 8 1 (.tmp 10) (.tmp 100), none⟩⟩, .ptr),
                                (⟨9, [8, 7, 6, 4, 5], false, ⟨(some 102), .load false 1 (.tmp 101), none⟩⟩, .bool),
                                (⟨10, [9, 8, 7, 6, 4, 5], false, ⟨(some 103), .move (.tmp 102), none⟩⟩, .bool),
                                (⟨11, [10, 9, 8, 7, 6, 4, 5], false, ⟨(some 104), .move (.tmp 11), some (103, false)⟩⟩, (.int .i64)),
                                (⟨12, [10, 9, 8, 7, 6, 4, 5], false, ⟨(some 105), .move (.tmp 1), some (103, false)⟩⟩, (.int .i64)),
                                (⟨13, [11, 12, 10, 9, 8, 7, 6, 4, 5], false, ⟨(some 106), .bin .geq (.tmp 104) (.tmp 105), some (103, false)⟩⟩, .bool),
                                (⟨14, [10, 13, 9, 8, 7, 6, 4, 5, 11, 12], false, ⟨(some 107), .pick (.tmp 103) (.const (.bool true)) (.tmp 106), none⟩⟩, .bool),
                                (⟨15, [3, 0, 1, 2, 4, 5, 6, 7, 8, 9, 10, 11, 12, 13, 14], false, ⟨(some 108), .idxArr 8 1 (.tmp 10) (.tmp 96), none⟩⟩, .ptr),
                                (⟨16, [15, 14, 10, 0, 1, 2, 3, 4, 5, 6, 7, 8, 9, 11, 12, 13], true, ⟨none, .store 1 (.tmp 108) (.tmp 107), none⟩⟩, .any)]) <|
                        .reg [(⟨(some 66), .move (.tmp 14), none⟩, (.int .i64)),
                          (⟨(some 67), .bin .add (.tmp 66) (.const (.int .i64 1)), none⟩, (.int .i64)),
                          (⟨(some 14), .move (.tmp 67), none⟩, (.int .i64))]) <|
                .seq (.reg [(⟨(some 109), .move (.tmp 5), none⟩, .ptr),
                    (⟨(some 110), .move (.tmp 12), none⟩, .any),
                    (⟨(some 111), .move (.tmp 11), none⟩, (.int .i64)),
                    (⟨(some 112), .bin .mul (.const (.int .i64 3)) (.tmp 111), none⟩, (.int .i64)),
                    (⟨(some 113), .bin .add (.tmp 112) (.const (.int .i64 2)), none⟩, (.int .i64)),
                    (⟨(some 114), .conv .u64 (.tmp 113), none⟩, (.int .u64)),
                    (⟨(some 115), .call k_cache_Cache_Put [(.tmp 109), (.tmp 110), (.tmp 114)], none⟩, (.int .i64)),
                    (⟨(some 15), .move (.tmp 115), none⟩, (.int .i64))]) <|
                .seq (.seq (.reg [(⟨(some 116), .move (.tmp 15), none⟩, (.int .i64)),
                      (⟨(some 117), .bin .neq (.tmp 116) (.const (.int .i64 0)), none⟩, .bool)]) <|
                  .cond (.tmp 117)
                    (.seq (.reg [(⟨(some 4), .move (.const (.bool false)), none⟩, .bool)]) <|
                    .ret)
                    (.skip)) <|
                .seq (.reg [(⟨(some 118), .move (.tmp 5), none⟩, .ptr),
                    (⟨(some 119), .move (.tmp 12), none⟩, .any),
                    (⟨(some 120), .move (.tmp 11), none⟩, (.int .i64)),
                    (⟨(some 121), .bin .mul (.const (.int .i64 3)) (.tmp 120), none⟩, (.int .i64)),
                    (⟨(some 122), .bin .add (.tmp 121) (.const (.int .i64 2)), none⟩, (.int .i64)),
                    (⟨(some 123), .conv .u64 (.tmp 122), none⟩, (.int .u64)),
                    (⟨(some 124), .call k_cache_Cache_Put [(.tmp 118), (.tmp 119), (.tmp 123)], none⟩, (.int .i64)),
                    (⟨(some 16), .move (.tmp 124), none⟩, (.int .i64))]) <|
                .seq (.reg [(⟨(some 125), .move (.tmp 16), none⟩, (.int .i64)),
                    (⟨(some 126), .bin .neq (.tmp 125) (.const (.int .i64 30)), none⟩, .bool)]) <|
                .cond (.tmp 126)
                  (.seq (.reg [(⟨(some 4), .move (.const (.bool false)), none⟩, .bool)]) <|
                  .ret)
                  (.skip)) <|
          .reg [(⟨(some 49), .move (.tmp 11), none⟩, (.int .i64)),
            (⟨(some 50), .bin .add (.tmp 49) (.const (.int .i64 1)), none⟩, (.int .i64)),
            (⟨(some 11), .move (.tmp 50), none⟩, (.int .i64))]) <|
  .seq (.cutn [(8, .any)] <|
      .seq (.reg [(⟨(some 127), .move (.tmp 1), none⟩, (.int .i64)),
          (⟨(some 128), .move (.tmp 7), none⟩, (.int .i64)),
          (⟨(some 129), .bin .eql (.tmp 127) (.tmp 128), none⟩, .bool)]) <|
      .cond (.tmp 129)
        (.reg [(⟨(some 130), .move (.tmp 5), none⟩, .ptr),
          (⟨(some 131), .call k_cache_Cache_Entries [(.tmp 130)], none⟩, .any),
          (⟨(some 8), .move (.tmp 131), none⟩, .any)])
        (.skip)) <|
  .seq (.cut [] <|
      .seq (.reg [(⟨(some 17), .move (.const (.int .i64 0)), none⟩, (.int .i64))]) <|
      .block 4 <|
        .loop [(17, (.int .i64))] <|
          .seq (.seq (.reg [(⟨(some 132), .move (.tmp 17), none⟩, (.int .i64)),
                (⟨(some 133), .bin .lss (.tmp 132) (.const (.int .i64 8)), none⟩, .bool)]) <|
            .cond (.tmp 133)
              (.skip)
              (.exit 4)) <|
          .seq (.block 5 <|
              .seq (.reg [(⟨(some 137), .move (.tmp 5), none⟩, .ptr),
                  (⟨(some 138), .move (.tmp 17), none⟩, (.int .i64)),
                  (⟨(some 139), .call k_cache_Cache_Get [(.tmp 137), (.tmp 138)], none⟩, .any),
                  (⟨(some 136), .move (.tmp 139), none⟩, .any),
                  (⟨(some 140), .extract (.tmp 136) 0, none⟩, .any),
                  (⟨(some 141), .extract (.tmp 136) 1, none⟩, .bool),
                  (⟨(some 18), .alloc [(.int .i64 0), (.int .u8 0), (.int .u8 0), (.int .u8 0), (.int .u8 0), (.int .u8 0), (.int .u8 0), (.int .u8 0), (.int .u8 0), (.int .u8 0), (.int .u8 0), (.int .u8 0), (.int .u8 0), (.int .u8 0), (.int .u8 0), (.int .u8 0), (.int .u8 0), (.int .u8 0), (.int .u8 0), (.int .u8 0), (.int .u8 0), (.int .u8 0), (.int .u8 0), (.int .u8 0), (.int .u8 0), (.int .u8 0), (.int .u8 0), (.int .u8 0), (.int .u8 0), (.int .u8 0), (.int .u8 0), (.int .u8 0), (.int .u8 0), (.int .u64 0)], none⟩, .ptr),
                  (⟨none, .store 34 (.tmp 18) (.tmp 140), none⟩, .any),
                  (⟨(some 19), .move (.tmp 141), none⟩, .bool)]) <|
              .seq (.cutn [(172, .bool)] <|
                  .regd [(⟨0, [], false, ⟨(some 142), .move (.tmp 19), none⟩⟩, .bool),
                    (⟨1, [], false, ⟨(some 143), .move (.tmp 17), none⟩⟩, (.int .i64)),
                    (⟨2, [1], false, ⟨(some 144), .idxArr 8 1 (.tmp 9) (.tmp 143), none⟩⟩, .ptr),
                    (⟨3, [2, 1], false, ⟨(some 145), .load false 1 (.tmp 144), none⟩⟩, (.int .i64)),
                    (⟨4, [3, 2, 1], false, ⟨(some 146), .bin .gtr (.tmp 145) (.const (.int .i64 0)), none⟩⟩, .bool),
                    (⟨5, [0, 4, 3, 2, 1], false, ⟨(some 147), .eqv true .bool (.tmp 142) (.tmp 146), none⟩⟩, .bool),
                    (⟨6, [5, 0, 4, 3, 2, 1], false, ⟨(some 148), .move (.tmp 147), none⟩⟩, .bool),
                    (⟨7, [6, 5, 0, 4, 3, 2, 1], false, ⟨(some 149), .move (.tmp 19), some (148, false)⟩⟩, .bool),
                    (⟨8, [7, 6, 5, 0, 4, 3, 2, 1], false, ⟨(some 150), .move (.tmp 149), some (148, false)⟩⟩, .bool),
                    (⟨9, [8, 7, 6, 5, 0, 4, 3, 2, 1], false, ⟨(some 151), .load true 34 (.tmp 18), some (150, true)⟩⟩, .any),
                    (⟨10, [8, 7, 6, 5, 0, 4, 3, 2, 1], false, ⟨(some 152), .move (.tmp 17), some (150, true)⟩⟩, (.int .i64)),
                    (⟨11, [8, 7, 6, 5, 0, 4, 3, 2, 1], false, ⟨(some 153), .move (.tmp 0), some (150, true)⟩⟩, .any),
                    (⟨12, [8, 7, 6, 5, 0, 4, 3, 2, 1], false, ⟨(some 154), .move (.tmp 17), some (150, true)⟩⟩, (.int .i64)),
                    (⟨13, [12, 8, 7, 6, 5, 0, 4, 3, 2, 1], false, ⟨(some 155), .idxArr 8 1 (.tmp 9) (.tmp 154), some (150, true)⟩⟩, .ptr),
                    (⟨14, [13, 8, 12, 7, 6, 5, 0, 4, 3, 2, 1], false, ⟨(some 156), .load false 1 (.tmp 155), some (150, true)⟩⟩, (.int .i64)),
                    (⟨15, [14, 8, 13, 12, 7, 6, 5, 0, 4, 3, 2, 1], false, ⟨(some 157), .bin .sub (.tmp 156) (.const (.int .i64 1)), some (150, true)⟩⟩, (.int .i64)),
                    (⟨16, [11, 15, 8, 7, 6, 5, 0, 4, 3, 2, 1, 14, 13, 12], false, ⟨(some 158), .idxSlice 2 (.tmp 153) (.tmp 157), some (150, true)⟩⟩, .ptr),
                    (⟨17, [16, 8, 11, 15, 7, 6, 5, 0, 4, 3, 2, 1, 14, 13, 12], false, ⟨(some 159), .fieldAddr 1 (.tmp 158), some (150, true)⟩⟩, .ptr),
                    (⟨18, [17, 8, 16, 11, 15, 7, 6, 5, 0, 4, 3, 2, 1, 14, 13, 12], false, ⟨(some 160), .load false 1 (.tmp 159), some (150, true)⟩⟩, (.int .u8)),
                    (⟨19, [8, 7, 6, 5, 0, 4, 3, 2, 1], false, ⟨(some 161), .move (.tmp 17), some (150, true)⟩⟩, (.int .i64)),
                    (⟨21, [8, 7, 6, 5, 0, 4, 3, 2, 1], false, ⟨(some 163), .move (.tmp 17), some (150, true)⟩⟩, (.int .i64)),
                    (⟨22, [21, 8, 7, 6, 5, 0, 4, 3, 2, 1], false, ⟨(some 164), .idxArr 8 1 (.tmp 9) (.tmp 163), some (150, true)⟩⟩, .ptr),
                    (⟨23, [22, 8, 21, 7, 6, 5, 0, 4, 3, 2, 1], false, ⟨(some 165), .load false 1 (.tmp 164), some (150, true)⟩⟩, (.int .i64)),
                    (⟨24, [23, 8, 22, 21, 7, 6, 5, 0, 4, 3, 2, 1], false, ⟨(some 166), .bin .mul (.const (.int .i64 3)) (.tmp 165), some (150, true)⟩⟩, (.int .i64)),
                    (⟨25, [24, 8, 23, 22, 21, 7, 6, 5, 0, 4, 3, 2, 1], false, ⟨(some 167), .bin .sub (.tmp 166) (.const (.int .i64 1)), some (150, true)⟩⟩, (.int .i64)),
                    (⟨26, [25, 8, 24, 23, 22, 21, 7, 6, 5, 0, 4, 3, 2, 1], false, ⟨(some 168), .conv .u64 (.tmp 167), some (150, true)⟩⟩, (.int .u64)),
                    (⟨20, [18, 19, 8, 17, 16, 11, 15, 7, 6, 5, 0, 4, 3, 2, 1, 14, 13, 12], true, ⟨(some 162), .call k_wicketlaw17_value [(.tmp 160), (.tmp 161)], some (150, true)⟩⟩, .any),
                    (⟨27, [10, 20, 26, 8, 7, 6, 5, 0, 4, 3, 2, 1, 18, 19, 17, 16, 11, 15, 14, 13, 12, 25, 24, 23, 22, 21], false, ⟨(some 169), .build [(.int .i64 0), (.int .u8 0), (.int .u8 0), (.int .u8 0), (.int .u8 0), (.int .u8 0), (.int .u8 0), (.int .u8 0), (.int .u8 0), (.int .u8 0), (.int .u8 0), (.int .u8 0), (.int .u8 0), (.int .u8 0), (.int .u8 0), (.int .u8 0), (.int .u8 0), (.int .u8 0), (.int .u8 0), (.int .u8 0), (.int .u8 0), (.int .u8 0), (.int .u8 0), (.int .u8 0), (.int .u8 0), (.int .u8 0), (.int .u8 0), (.int .u8 0), (.int .u8 0), (.int .u8 0), (.int .u8 0), (.int .u8 0), (.int .u8 0), (.int .u64 0)] [(0, 1, (.tmp 152)), (1, 32, (.tmp 162)), (33, 1, (.tmp 168))], some (150, true)⟩⟩, .any),
                    (⟨28, [9, 27, 8, 7, 6, 5, 0, 4, 3, 2, 1, 10, 20, 26, 18, 19, 17, 16, 11, 15, 14, 13, 12, 25, 24, 23, 22, 21], false, ⟨(some 170), .eqv true (.agg (List.replicate 34 false)) (.tmp 151) (.tmp 169), some (150, true)⟩⟩, .bool),
                    (⟨29, [8, 28, 6, 7, 5, 0, 4, 3, 2, 1, 9, 27, 10, 20, 26, 18, 19, 17, 16, 11, 15, 14, 13, 12, 25, 24, 23, 22, 21], false, ⟨(some 171), .pick (.tmp 150) (.tmp 170) (.const (.bool false)), some (148, false)⟩⟩, .bool),
                    (⟨30, [6, 29, 5, 0, 4, 3, 2, 1, 8, 28, 7, 9, 27, 10, 20, 26, 18, 19, 17, 16, 11, 15, 14, 13, 12, 25, 24, 23, 22, 21], false, ⟨(some 172), .pick (.tmp 148) (.const (.bool true)) (.tmp 171), none⟩⟩, .bool)]) <|
              .cond (.tmp 172)
                (.seq (.reg [(⟨(some 4), .move (.const (.bool false)), none⟩, .bool)]) <|
                .ret)
                (.skip)) <|
          .reg [(⟨(some 134), .move (.tmp 17), none⟩, (.int .i64)),
            (⟨(some 135), .bin .add (.tmp 134) (.const (.int .i64 1)), none⟩, (.int .i64)),
            (⟨(some 17), .move (.tmp 135), none⟩, (.int .i64))]) <|
  .seq (.reg [(⟨(some 173), .move (.tmp 5), none⟩, .ptr),
      (⟨(some 174), .call k_cache_Cache_Copy [(.tmp 173)], none⟩, .ptr),
      (⟨(some 20), .move (.tmp 174), none⟩, .ptr)]) <|
  .seq (.seq (.reg [(⟨(some 175), .move (.tmp 20), none⟩, .ptr),
        (⟨(some 176), .eqv false .ptr (.tmp 175) (.const (.pointer none)), none⟩, .bool)]) <|
    .cond (.tmp 176)
      (.seq (.reg [(⟨(some 4), .move (.const (.bool false)), none⟩, .bool)]) <|
      .ret)
      (.skip)) <|
  .seq (.reg [(⟨(some 177), .move (.tmp 5), none⟩, .ptr),
      (⟨(some 178), .move (.tmp 8), none⟩, .any),
      (⟨(some 179), .call k_cache_Cache_Drop [(.tmp 177), (.tmp 178)], none⟩, (.int .i64))]) <|
  .seq (.reg [(⟨(some 21), .move (.const (.int .i64 0)), none⟩, (.int .i64))]) <|
  .seq (.cut [(21, (.int .i64))] <|
      .seq (.reg [(⟨(some 22), .move (.const (.int .i64 0)), none⟩, (.int .i64))]) <|
      .block 6 <|
        .loop [(21, (.int .i64)), (22, (.int .i64))] <|
          .seq (.seq (.reg [(⟨(some 180), .move (.tmp 22), none⟩, (.int .i64)),
                (⟨(some 181), .bin .lss (.tmp 180) (.const (.int .i64 8)), none⟩, .bool)]) <|
            .cond (.tmp 181)
              (.skip)
              (.exit 6)) <|
          .seq (.cut [(21, (.int .i64))] <|
              .block 7 <|
                .seq (.reg [(⟨(some 185), .move (.tmp 5), none⟩, .ptr),
                    (⟨(some 186), .move (.tmp 22), none⟩, (.int .i64)),
                    (⟨(some 187), .call k_cache_Cache_Get [(.tmp 185), (.tmp 186)], none⟩, .any),
                    (⟨(some 184), .move (.tmp 187), none⟩, .any),
                    (⟨(some 188), .extract (.tmp 184) 0, none⟩, .any),
                    (⟨(some 189), .extract (.tmp 184) 1, none⟩, .bool),
                    (⟨(some 23), .alloc [(.int .i64 0), (.int .u8 0), (.int .u8 0), (.int .u8 0), (.int .u8 0), (.int .u8 0), (.int .u8 0), (.int .u8 0), (.int .u8 0), (.int .u8 0), (.int .u8 0), (.int .u8 0), (.int .u8 0), (.int .u8 0), (.int .u8 0), (.int .u8 0), (.int .u8 0), (.int .u8 0), (.int .u8 0), (.int .u8 0), (.int .u8 0), (.int .u8 0), (.int .u8 0), (.int .u8 0), (.int .u8 0), (.int .u8 0), (.int .u8 0), (.int .u8 0), (.int .u8 0), (.int .u8 0), (.int .u8 0), (.int .u8 0), (.int .u8 0), (.int .u64 0)], none⟩, .ptr),
                    (⟨none, .store 34 (.tmp 23) (.tmp 188), none⟩, .any),
                    (⟨(some 24), .move (.tmp 189), none⟩, .bool)]) <|
                .seq (.seq (.reg [(⟨(some 190), .move (.tmp 24), none⟩, .bool),
                      (⟨(some 191), .move (.tmp 22), none⟩, (.int .i64)),
                      (⟨(some 192), .idxArr 8 1 (.tmp 10) (.tmp 191), none⟩, .ptr),
                      (⟨(some 193), .load false 1 (.tmp 192), none⟩, .bool),
                      (⟨(some 194), .eqv true .bool (.tmp 190) (.tmp 193), none⟩, .bool)]) <|
                  .cond (.tmp 194)
                    (.seq (.reg [(⟨(some 4), .move (.const (.bool false)), none⟩, .bool)]) <|
                    .ret)
                    (.skip)) <|
                .seq (.reg [(⟨(some 195), .move (.tmp 24), none⟩, .bool)]) <|
                .cond (.tmp 195)
                  (.reg [(⟨(some 196), .move (.tmp 21), none⟩, (.int .i64)),
                    (⟨(some 197), .bin .add (.tmp 196) (.const (.int .i64 1)), none⟩, (.int .i64)),
                    (⟨(some 21), .move (.tmp 197), none⟩, (.int .i64))])
                  (.skip)) <|
          .reg [(⟨(some 182), .move (.tmp 22), none⟩, (.int .i64)),
            (⟨(some 183), .bin .add (.tmp 182) (.const (.int .i64 1)), none⟩, (.int .i64)),
            (⟨(some 22), .move (.tmp 183), none⟩, (.int .i64))]) <|
  .seq (.reg [(⟨(some 198), .move (.tmp 20), none⟩, .ptr),
      (⟨(some 199), .call k_cache_Cache_Entries [(.tmp 198)], none⟩, .any),
      (⟨(some 25), .move (.tmp 199), none⟩, .any)]) <|
  .seq (.reg [(⟨(some 200), .move (.tmp 20), none⟩, .ptr),
      (⟨(some 201), .move (.tmp 25), none⟩, .any),
      (⟨(some 202), .call k_cache_Cache_Drop [(.tmp 200), (.tmp 201)], none⟩, (.int .i64)),
      (⟨(some 26), .move (.tmp 202), none⟩, (.int .i64))]) <|
  .seq (.reg [(⟨(some 203), .move (.tmp 5), none⟩, .ptr),
      (⟨(some 204), .call k_cache_Cache_Len [(.tmp 203)], none⟩, (.int .i64)),
      (⟨(some 205), .move (.tmp 21), none⟩, (.int .i64)),
      (⟨(some 206), .bin .eql (.tmp 204) (.tmp 205), none⟩, .bool),
      (⟨(some 207), .move (.tmp 206), none⟩, .bool),
      (⟨(some 208), .move (.tmp 26), some (207, true)⟩, (.int .i64)),
      (⟨(some 209), .move (.tmp 25), some (207, true)⟩, .any),
      (⟨(some 210), .lenS (.tmp 209), some (207, true)⟩, (.int .i64)),
      (⟨(some 211), .bin .eql (.tmp 208) (.tmp 210), some (207, true)⟩, .bool),
      (⟨(some 212), .pick (.tmp 207) (.tmp 211) (.const (.bool false)), none⟩, .bool),
      (⟨(some 213), .move (.tmp 212), none⟩, .bool),
      (⟨(some 214), .move (.tmp 20), some (213, true)⟩, .ptr),
      (⟨(some 215), .call k_cache_Cache_Len [(.tmp 214)], some (213, true)⟩, (.int .i64)),
      (⟨(some 216), .bin .eql (.tmp 215) (.const (.int .i64 0)), some (213, true)⟩, .bool),
      (⟨(some 217), .pick (.tmp 213) (.tmp 216) (.const (.bool false)), none⟩, .bool),
      (⟨(some 218), .move (.tmp 217), none⟩, .bool),
      (⟨(some 219), .move (.tmp 20), some (218, true)⟩, .ptr),
      (⟨(some 220), .call k_cache_Cache_Entries [(.tmp 219)], some (218, true)⟩, .any),
      (⟨(some 221), .lenS (.tmp 220), some (218, true)⟩, (.int .i64)),
      (⟨(some 222), .bin .eql (.tmp 221) (.const (.int .i64 0)), some (218, true)⟩, .bool),
      (⟨(some 223), .pick (.tmp 218) (.tmp 222) (.const (.bool false)), none⟩, .bool),
      (⟨(some 4), .move (.tmp 223), none⟩, .bool)]) <|
  .ret
def f_wicketlaw17_CacheDrops_L47 (n : Nat) (u1 : Int) (u0 : Value) (a2 : ((Bool × Unit) × Heap)) (n3 : Nat) (h4 : Heap) (v8 : Int) (p15 : ((Value × Unit) × Heap)) (v16 : Value) (v17 : Int) (h18 : Heap) : Option (((Value × Int × Unit) × Heap) ⊕ ((Value × Unit) × Heap)) :=
  (lenB p15.1.1).bind fun n19 =>
  bif (decide (v17 < (n19 : Int))) then
    ((((ixB 1 p15.1.1 v17).bind fun q20 =>
      (ldT (.int .i64) h18 (some q20)).bind fun x21 =>
      (ixB 2 u0 v8).bind fun q22 =>
      (ldT (.int .u8) h18 (some (fa q22 1))).bind fun x23 =>
      (ixB 1 p15.1.1 v17).bind fun q24 =>
      (ldT (.int .i64) h18 (some q24)).bind fun x25 =>
      (f_wicketlaw17_value n x23 x25 (hid h18 [] ((Addr.block q20) :: []))).bind fun p26 =>
      bnd (Heap.putBack p26.2 h18 ([] ++ ((Addr.block q20) :: []))) fun h27 =>
      (fillL [(.int .i64 0), (.int .u8 0), (.int .u8 0), (.int .u8 0), (.int .u8 0), (.int .u8 0), (.int .u8 0), (.int .u8 0), (.int .u8 0), (.int .u8 0), (.int .u8 0), (.int .u8 0), (.int .u8 0), (.int .u8 0), (.int .u8 0), (.int .u8 0), (.int .u8 0), (.int .u8 0), (.int .u8 0), (.int .u8 0), (.int .u8 0), (.int .u8 0), (.int .u8 0), (.int .u8 0), (.int .u8 0), (.int .u8 0), (.int .u8 0), (.int .u8 0), (.int .u8 0), (.int .u8 0), (.int .u8 0), (.int .u8 0), (.int .u8 0)] [(0, 1, (.int .i64 x21)), (1, 32, p26.1.1)]).bind fun cs28 =>
      (fillL [(.int .i64 0), (.int .u8 0), (.int .u8 0), (.int .u8 0), (.int .u8 0), (.int .u8 0), (.int .u8 0), (.int .u8 0), (.int .u8 0), (.int .u8 0), (.int .u8 0), (.int .u8 0), (.int .u8 0), (.int .u8 0), (.int .u8 0), (.int .u8 0), (.int .u8 0), (.int .u8 0), (.int .u8 0), (.int .u8 0), (.int .u8 0), (.int .u8 0), (.int .u8 0), (.int .u8 0), (.int .u8 0), (.int .u8 0), (.int .u8 0), (.int .u8 0), (.int .u8 0), (.int .u8 0), (.int .u8 0), (.int .u8 0), (.int .u8 0)] [(0, 33, (.agg ⟨cs28⟩))]).bind fun cs29 =>
      bnd ((Heap.new h27 (.cells cs29 false 33))) fun h30 =>
      (appendK h30 40 33 v16 (.slice (some ⟨Heap.next h27, 0, some 0⟩) 1 1)).bind fun p31 =>
      (ixB 1 p15.1.1 v17).bind fun q32 =>
      (ldT (.int .i64) p31.2 (some q32)).bind fun x33 =>
      (ixA 8 1 (some (nwA a2.2)) x33).bind fun q34 =>
      (stB 1 (.int .i64 (IntKind.i64.wrap (v8 + 1))) p31.2 (some q34)).bind fun h35 =>
      (ixB 1 p15.1.1 v17).bind fun q36 =>
      (ldT (.int .i64) h35 (some q36)).bind fun x37 =>
      (ixB 1 p15.1.1 v17).bind fun q38 =>
      (ldT (.int .i64) h35 (some q38)).bind fun x39 =>
      (ixA 8 1 (some (nwA h4)) x39).bind fun q40 =>
      (ldT .bool h35 (some q40)).bind fun x41 =>
      bif x41 then
        ((ixA 8 1 (some (nwA h4)) x37).bind fun q42 =>
        (stB 1 (.bool true) h35 (some q42)).bind fun h43 =>
        some ((p31.1, ()), h43))
      else
        ((ixA 8 1 (some (nwA h4)) x37).bind fun q44 =>
        (stB 1 (.bool (decide ((if (if 40 < (n3 : Int) then 40 else (n3 : Int)) < (if u1 < 0 then 0 else u1) then (if 40 < (n3 : Int) then 40 else (n3 : Int)) else (if u1 < 0 then 0 else u1)) ≤ v8))) h35 (some q44)).bind fun h45 =>
        some ((p31.1, ()), h45))) : Option ((Value × Unit) × Heap)).bind fun a46 =>
    some (.inl ((a46.1.1, ((IntKind.i64.wrap (v17 + 1)), ())), a46.2)))
  else
    (some (.inr ((v16, ()), h18)))
def f_wicketlaw17_CacheDrops_C51 (n : Nat) (u1 : Int) (u0 : Value) (p1 : ((Option Addr × Int × Unit) × Heap)) (a2 : ((Bool × Unit) × Heap)) (n3 : Nat) (h4 : Heap) (v8 : Int) (v7 : Value) (h10 : Heap) : Option (((Value × Unit) × Heap) ⊕ (((Value × Int × Unit) × Heap) ⊕ (((Value × Unit) × Heap) ⊕ ((Bool × Unit) × Heap)))) :=
  ((bif (decide (v8 = (if (if 40 < (n3 : Int) then 40 else (n3 : Int)) < (if u1 < 0 then 0 else u1) then (if 40 < (n3 : Int) then 40 else (n3 : Int)) else (if u1 < 0 then 0 else u1)))) then
      ((f_cache_Cache_Entries n p1.1.1 h10).bind fun p11 =>
      some ((p11.1.1, ()), p11.2))
    else
      (some ((v7, ()), h10))) : Option ((Value × Unit) × Heap)).bind fun a12 =>
  (ixB 2 u0 v8).bind fun q13 =>
  (ldT .any a12.2 (some (fa q13 0))).bind fun x14 =>
  (f_wicketlaw17_rising n x14 8 a12.2).bind fun p15 =>
  ((loopT (fun a => f_wicketlaw17_CacheDrops_L47 n u1 u0 a2 n3 h4 v8 p15 a.1.1 a.1.2.1 a.2) n (((.slice none 0 0), (0, ())), p15.2)) : Option ((Value × Unit) × Heap)).bind fun a48 =>
  (f_cache_Cache_Put n p1.1.1 a48.1.1 (IntKind.u64.wrap ((IntKind.i64.wrap ((IntKind.i64.wrap (3 * v8)) + 2)))) a48.2).bind fun p49 =>
  bif (!decide (p49.1.1 = 0)) then
    (some (.inr (.inr (.inr ((false, ()), p49.2)))))
  else
    ((f_cache_Cache_Put n p1.1.1 a48.1.1 (IntKind.u64.wrap ((IntKind.i64.wrap ((IntKind.i64.wrap (3 * v8)) + 2)))) p49.2).bind fun p50 =>
    bif (!decide (p50.1.1 = 30)) then
      (some (.inr (.inr (.inr ((false, ()), p50.2)))))
    else
      (some (.inl ((a12.1.1, ()), p50.2))))
def f_wicketlaw17_CacheDrops_L53 (n : Nat) (u1 : Int) (u0 : Value) (p1 : ((Option Addr × Int × Unit) × Heap)) (a2 : ((Bool × Unit) × Heap)) (n3 : Nat) (h4 : Heap) (v7 : Value) (v8 : Int) (h9 : Heap) : Option (((Value × Int × Unit) × Heap) ⊕ (((Value × Unit) × Heap) ⊕ ((Bool × Unit) × Heap))) :=
  bif (decide (v8 < (if 40 < (n3 : Int) then 40 else (n3 : Int)))) then
    (thenB (f_wicketlaw17_CacheDrops_C51 n u1 u0 p1 a2 n3 h4 v8 v7 (h9)) fun a52 =>
    some (.inl ((a52.1.1, ((IntKind.i64.wrap (v8 + 1)), ())), a52.2)))
  else
    (some (.inr (.inl ((v7, ()), h9))))
def f_wicketlaw17_CacheDrops_C54 (n : Nat) (u1 : Int) (u0 : Value) (p1 : ((Option Addr × Int × Unit) × Heap)) (a2 : ((Bool × Unit) × Heap)) (n3 : Nat) (h4 : Heap) (h6 : Heap) : Option (((Value × Unit) × Heap) ⊕ ((Bool × Unit) × Heap)) :=
  loopT (fun a => f_wicketlaw17_CacheDrops_L53 n u1 u0 p1 a2 n3 h4 a.1.1 a.1.2.1 a.2) n (((.slice none 0 0), (0, ())), h6)
def f_wicketlaw17_CacheDrops_L78 (n : Nat) (u0 : Value) (p1 : ((Option Addr × Int × Unit) × Heap)) (a2 : ((Bool × Unit) × Heap)) (v59 : Int) (h60 : Heap) : Option (((Int × Unit) × Heap) ⊕ (((Unit) × Heap) ⊕ ((Bool × Unit) × Heap))) :=
  bif (decide (v59 < 8)) then
    ((f_cache_Cache_Get n p1.1.1 v59 h60).bind fun p61 =>
    bnd ((Heap.new p61.2 (.cells [(.int .i64 0), (.int .u8 0), (.int .u8 0), (.int .u8 0), (.int .u8 0), (.int .u8 0), (.int .u8 0), (.int .u8 0), (.int .u8 0), (.int .u8 0), (.int .u8 0), (.int .u8 0), (.int .u8 0), (.int .u8 0), (.int .u8 0), (.int .u8 0), (.int .u8 0), (.int .u8 0), (.int .u8 0), (.int .u8 0), (.int .u8 0), (.int .u8 0), (.int .u8 0), (.int .u8 0), (.int .u8 0), (.int .u8 0), (.int .u8 0), (.int .u8 0), (.int .u8 0), (.int .u8 0), (.int .u8 0), (.int .u8 0), (.int .u8 0), (.int .u64 0)] false 0))) fun h62 =>
    (stB 34 p61.1.1 h62 (some (nwA p61.2))).bind fun h63 =>
    (((ixA 8 1 (some (nwA a2.2)) v59).bind fun q64 =>
      (ldT (.int .i64) h63 (some q64)).bind fun x65 =>
      bif (!(p61.1.2.1 == (decide (0 < x65)))) then
        (some ((true, ()), h63))
      else
        (bif p61.1.2.1 then
          ((ldA 34 h63 (some (nwA p61.2))).bind fun cs66 =>
          (ixA 8 1 (some (nwA a2.2)) v59).bind fun q67 =>
          (ldT (.int .i64) h63 (some q67)).bind fun x68 =>
          (ixB 2 u0 (IntKind.i64.wrap (x68 - 1))).bind fun q69 =>
          (ldT (.int .u8) h63 (some (fa q69 1))).bind fun x70 =>
          (ixA 8 1 (some (nwA a2.2)) v59).bind fun q71 =>
          (ldT (.int .i64) h63 (some q71)).bind fun x72 =>
          (f_wicketlaw17_value n x70 v59 (hid h63 [] ((Addr.block q71) :: ((Addr.block (nwA p61.2)) :: [])))).bind fun p73 =>
          bnd (Heap.putBack p73.2 h63 ([] ++ ((Addr.block q71) :: ((Addr.block (nwA p61.2)) :: [])))) fun h74 =>
          (fillL [(.int .i64 0), (.int .u8 0), (.int .u8 0), (.int .u8 0), (.int .u8 0), (.int .u8 0), (.int .u8 0), (.int .u8 0), (.int .u8 0), (.int .u8 0), (.int .u8 0), (.int .u8 0), (.int .u8 0), (.int .u8 0), (.int .u8 0), (.int .u8 0), (.int .u8 0), (.int .u8 0), (.int .u8 0), (.int .u8 0), (.int .u8 0), (.int .u8 0), (.int .u8 0), (.int .u8 0), (.int .u8 0), (.int .u8 0), (.int .u8 0), (.int .u8 0), (.int .u8 0), (.int .u8 0), (.int .u8 0), (.int .u8 0), (.int .u8 0), (.int .u64 0)] [(0, 1, (.int .i64 v59)), (1, 32, p73.1.1), (33, 1, (.int .u64 (IntKind.u64.wrap ((IntKind.i64.wrap ((IntKind.i64.wrap (3 * x72)) - 1))))))]).bind fun cs75 =>
          (eqVals h74 (.agg (List.replicate 34 false)) (.agg ⟨cs66⟩) (.agg ⟨cs75⟩)).bind fun b76 =>
          some (((!b76), ()), h74))
        else
          (some ((false, ()), h63)))) : Option ((Bool × Unit) × Heap)).bind fun a77 =>
    bif a77.1.1 then
      (some (.inr (.inr ((false, ()), a77.2))))
    else
      (some (.inl (((IntKind.i64.wrap (v59 + 1)), ()), a77.2))))
  else
    (some (.inr (.inl ((), h60))))
def f_wicketlaw17_CacheDrops_C79 (n : Nat) (u0 : Value) (p1 : ((Option Addr × Int × Unit) × Heap)) (a2 : ((Bool × Unit) × Heap)) (h58 : Heap) : Option (((Unit) × Heap) ⊕ ((Bool × Unit) × Heap)) :=
  loopT (fun a => f_wicketlaw17_CacheDrops_L78 n u0 p1 a2 a.1.1 a.2) n ((0, ()), h58)
def f_wicketlaw17_CacheDrops_C93 (n : Nat) (p1 : ((Option Addr × Int × Unit) × Heap)) (h4 : Heap) (v85 : Int) (v84 : Int) (h87 : Heap) : Option (((Int × Unit) × Heap) ⊕ (((Int × Int × Unit) × Heap) ⊕ (((Int × Unit) × Heap) ⊕ ((Bool × Unit) × Heap)))) :=
  (f_cache_Cache_Get n p1.1.1 v85 h87).bind fun p88 =>
  bnd ((Heap.new p88.2 (.cells [(.int .i64 0), (.int .u8 0), (.int .u8 0), (.int .u8 0), (.int .u8 0), (.int .u8 0), (.int .u8 0), (.int .u8 0), (.int .u8 0), (.int .u8 0), (.int .u8 0), (.int .u8 0), (.int .u8 0), (.int .u8 0), (.int .u8 0), (.int .u8 0), (.int .u8 0), (.int .u8 0), (.int .u8 0), (.int .u8 0), (.int .u8 0), (.int .u8 0), (.int .u8 0), (.int .u8 0), (.int .u8 0), (.int .u8 0), (.int .u8 0), (.int .u8 0), (.int .u8 0), (.int .u8 0), (.int .u8 0), (.int .u8 0), (.int .u8 0), (.int .u64 0)] false 0))) fun h89 =>
  (stB 34 p88.1.1 h89 (some (nwA p88.2))).bind fun h90 =>
  (ixA 8 1 (some (nwA h4)) v85).bind fun q91 =>
  (ldT .bool h90 (some q91)).bind fun x92 =>
  bif (!(p88.1.2.1 == x92)) then
    (some (.inr (.inr (.inr ((false, ()), h90)))))
  else
    (bif p88.1.2.1 then
      (some (.inl (((IntKind.i64.wrap (v84 + 1)), ()), h90)))
    else
      (some (.inl ((v84, ()), h90))))
def f_wicketlaw17_CacheDrops_L95 (n : Nat) (p1 : ((Option Addr × Int × Unit) × Heap)) (h4 : Heap) (v84 : Int) (v85 : Int) (h86 : Heap) : Option (((Int × Int × Unit) × Heap) ⊕ (((Int × Unit) × Heap) ⊕ ((Bool × Unit) × Heap))) :=
  bif (decide (v85 < 8)) then
    (thenB (f_wicketlaw17_CacheDrops_C93 n p1 h4 v85 v84 (h86)) fun a94 =>
    some (.inl ((a94.1.1, ((IntKind.i64.wrap (v85 + 1)), ())), a94.2)))
  else
    (some (.inr (.inl ((v84, ()), h86))))
def f_wicketlaw17_CacheDrops_C96 (n : Nat) (p1 : ((Option Addr × Int × Unit) × Heap)) (h4 : Heap) (h83 : Heap) : Option (((Int × Unit) × Heap) ⊕ ((Bool × Unit) × Heap)) :=
  loopT (fun a => f_wicketlaw17_CacheDrops_L95 n p1 h4 a.1.1 a.1.2.1 a.2) n ((0, (0, ())), h83)
noncomputable def sf_wicketlaw17_CacheDrops (n : Nat) : Sf := sfOf [(k_wicketlaw17_fixed, s_wicketlaw17_fixed n), (k_cache_New, s_cache_New n), (k_cache_Cache_Entries, s_cache_Cache_Entries n), (k_wicketlaw17_rising, s_wicketlaw17_rising n), (k_wicketlaw17_value, s_wicketlaw17_value n), (k_cache_Cache_Put, s_cache_Cache_Put n), (k_cache_Cache_Get, s_cache_Cache_Get n), (k_cache_Cache_Copy, s_cache_Cache_Copy n), (k_cache_Cache_Drop, s_cache_Cache_Drop n), (k_cache_Cache_Len, s_cache_Cache_Len n)]
noncomputable def it_wicketlaw17_CacheDrops (n : Nat) : It := itOf []
def f_wicketlaw17_CacheDrops (n : Nat) (u0 : Value) (u1 : Int) (h : Heap) : Option ((Bool × Unit) × Heap) :=
  (f_wicketlaw17_fixed n h).bind fun p0 =>
  bif (!p0.1.1) then
    (some ((false, ()), p0.2))
  else
    ((f_cache_New n 8 p0.2).bind fun p1 =>
    ((bif (Option.isNone p1.1.1) then
        (some ((true, ()), p1.2))
      else
        (some (((!decide (p1.1.2.1 = 0)), ()), p1.2))) : Option ((Bool × Unit) × Heap)).bind fun a2 =>
    bif a2.1.1 then
      (some ((false, ()), a2.2))
    else
      ((lenB u0).bind fun n3 =>
      bnd ((Heap.new a2.2 (.cells (List.replicate 8 (.int .i64 0)) false 0))) fun h4 =>
      bnd ((Heap.new h4 (.cells (List.replicate 8 (.bool false)) false 0))) fun h5 =>
      thenB (f_wicketlaw17_CacheDrops_C54 n u1 u0 p1 a2 n3 h4 (h5)) fun a55 =>
      ((bif (decide ((if (if 40 < (n3 : Int) then 40 else (n3 : Int)) < (if u1 < 0 then 0 else u1) then (if 40 < (n3 : Int) then 40 else (n3 : Int)) else (if u1 < 0 then 0 else u1)) = (if 40 < (n3 : Int) then 40 else (n3 : Int)))) then
          ((f_cache_Cache_Entries n p1.1.1 a55.2).bind fun p56 =>
          some ((p56.1.1, ()), p56.2))
        else
          (some ((a55.1.1, ()), a55.2))) : Option ((Value × Unit) × Heap)).bind fun a57 =>
      thenB (f_wicketlaw17_CacheDrops_C79 n u0 p1 a2 (a57.2)) fun a80 =>
      (f_cache_Cache_Copy n p1.1.1 a80.2).bind fun p81 =>
      bif (Option.isNone p81.1.1) then
        (some ((false, ()), p81.2))
      else
        ((f_cache_Cache_Drop n p1.1.1 a57.1.1 p81.2).bind fun p82 =>
        thenB (f_wicketlaw17_CacheDrops_C96 n p1 h4 (p82.2)) fun a97 =>
        (f_cache_Cache_Entries n p81.1.1 a97.2).bind fun p98 =>
        (f_cache_Cache_Drop n p81.1.1 p98.1.1 p98.2).bind fun p99 =>
        (f_cache_Cache_Len n p1.1.1 p99.2).bind fun p100 =>
        bif (decide (p100.1.1 = a97.1.1)) then
          ((lenB p98.1.1).bind fun n101 =>
          bif (decide (p99.1.1 = (n101 : Int))) then
            ((f_cache_Cache_Len n p81.1.1 p100.2).bind fun p102 =>
            bif (decide (p102.1.1 = 0)) then
              ((f_cache_Cache_Entries n p81.1.1 p102.2).bind fun p103 =>
              (lenB p103.1.1).bind fun n104 =>
              some (((decide ((n104 : Int) = 0)), ()), p103.2))
            else
              (some ((false, ()), p102.2)))
          else
            (some ((false, ()), p100.2)))
        else
          (some ((false, ()), p100.2)))))
def rs_wicketlaw17_CacheDrops : Rs := [(.tmp 4, .bool)]
def ps_wicketlaw17_CacheDrops : List Ty := [.any, (.int .i64)]
theorem e_wicketlaw17_CacheDrops (n : Nat) (u0 : Value) (u1 : Int) (h : Heap) : f_wicketlaw17_CacheDrops n u0 u1 h = fB (sf_wicketlaw17_CacheDrops n) (it_wicketlaw17_CacheDrops n) n c2_wicketlaw17_CacheDrops rs_wicketlaw17_CacheDrops ps_wicketlaw17_CacheDrops (u0, (u1, ())) h := by kernel_rfl
noncomputable def s_wicketlaw17_CacheDrops (n : Nat) : Sf1 := mkSf ps_wicketlaw17_CacheDrops rs_wicketlaw17_CacheDrops fun a h => f_wicketlaw17_CacheDrops n a.1 a.2.1 h

/-- The table holds these. -/
structure LfT (T : Nat → Option AFun) : Prop where
  t_wicketlaw17_fixed : PrimT_wicketlaw17_fixed T
  t_cache_New : T k_cache_New = some ⟨List.map (·.1) rs_cache_New, C2.erase c2_cache_New, none⟩
  t_wicketlaw17_rising : T k_wicketlaw17_rising = some ⟨List.map (·.1) rs_wicketlaw17_rising, C2.erase c2_wicketlaw17_rising, none⟩
  t_wicketlaw17_value : T k_wicketlaw17_value = some ⟨List.map (·.1) rs_wicketlaw17_value, C2.erase c2_wicketlaw17_value, none⟩
  t_cache_Cache_Put : T k_cache_Cache_Put = some ⟨List.map (·.1) rs_cache_Cache_Put, C2.erase c2_cache_Cache_Put, none⟩
  t_cache_Cache_Get : T k_cache_Cache_Get = some ⟨List.map (·.1) rs_cache_Cache_Get, C2.erase c2_cache_Cache_Get, none⟩
  t_cache_Cache_Copy : T k_cache_Cache_Copy = some ⟨List.map (·.1) rs_cache_Cache_Copy, C2.erase c2_cache_Cache_Copy, none⟩
  t_cache_Cache_Drop : T k_cache_Cache_Drop = some ⟨List.map (·.1) rs_cache_Cache_Drop, C2.erase c2_cache_Cache_Drop, none⟩
  t_cache_Cache_Last : T k_cache_Cache_Last = some ⟨List.map (·.1) rs_cache_Cache_Last, C2.erase c2_cache_Cache_Last, none⟩
  t_wicketlaw17_plain : T k_wicketlaw17_plain = some ⟨List.map (·.1) rs_wicketlaw17_plain, C2.erase c2_wicketlaw17_plain, none⟩
  t_cache_Cache_All_1 : T k_cache_Cache_All_1 = some ⟨[], C2.erase c2_cache_Cache_All_1, none⟩
  t_cache_Cache_All : T k_cache_Cache_All = some ⟨List.map (·.1) rs_cache_Cache_All, C2.erase c2_cache_Cache_All, none⟩
  t_cache_Cache_Entries : T k_cache_Cache_Entries = some ⟨List.map (·.1) rs_cache_Cache_Entries, C2.erase c2_cache_Cache_Entries, none⟩
  t_cache_Cache_Len : T k_cache_Cache_Len = some ⟨List.map (·.1) rs_cache_Cache_Len, C2.erase c2_cache_Cache_Len, none⟩
  t_wicketlaw17_given : T k_wicketlaw17_given = some ⟨List.map (·.1) rs_wicketlaw17_given, C2.erase c2_wicketlaw17_given, none⟩
  t_wicketlaw17_CacheDrops : T k_wicketlaw17_CacheDrops = some ⟨List.map (·.1) rs_wicketlaw17_CacheDrops, C2.erase c2_wicketlaw17_CacheDrops, none⟩
variable {T : Nat → Option AFun}
theorem ok_wicketlaw17_fixed (hT : LfT T) (n : Nat) : Sf1Ok T k_wicketlaw17_fixed (s_wicketlaw17_fixed n) := primOk_wicketlaw17_fixed hT.t_wicketlaw17_fixed n
theorem ok_cache_New (hT : LfT T) (n : Nat) : Sf1Ok T k_cache_New (s_cache_New n) := mkSf_ok (sf := sf_cache_New n) (it := it_cache_New n) (n := n) hT.t_cache_New sfOk_nil itOk_nil fun a h => e_cache_New n a.1 h
theorem ok_wicketlaw17_rising (hT : LfT T) (n : Nat) : Sf1Ok T k_wicketlaw17_rising (s_wicketlaw17_rising n) := mkSf_ok (sf := sf_wicketlaw17_rising n) (it := it_wicketlaw17_rising n) (n := n) hT.t_wicketlaw17_rising sfOk_nil itOk_nil fun a h => e_wicketlaw17_rising n a.1 a.2.1 h
theorem ok_wicketlaw17_value (hT : LfT T) (n : Nat) : Sf1Ok T k_wicketlaw17_value (s_wicketlaw17_value n) := mkSf_ok (sf := sf_wicketlaw17_value n) (it := it_wicketlaw17_value n) (n := n) hT.t_wicketlaw17_value sfOk_nil itOk_nil fun a h => e_wicketlaw17_value n a.1 a.2.1 h
theorem ok_cache_Cache_Put (hT : LfT T) (n : Nat) : Sf1Ok T k_cache_Cache_Put (s_cache_Cache_Put n) := mkSf_ok (sf := sf_cache_Cache_Put n) (it := it_cache_Cache_Put n) (n := n) hT.t_cache_Cache_Put sfOk_nil itOk_nil fun a h => e_cache_Cache_Put n a.1 a.2.1 a.2.2.1 h
theorem ok_cache_Cache_Get (hT : LfT T) (n : Nat) : Sf1Ok T k_cache_Cache_Get (s_cache_Cache_Get n) := mkSf_ok (sf := sf_cache_Cache_Get n) (it := it_cache_Cache_Get n) (n := n) hT.t_cache_Cache_Get sfOk_nil itOk_nil fun a h => e_cache_Cache_Get n a.1 a.2.1 h
theorem ok_cache_Cache_Copy (hT : LfT T) (n : Nat) : Sf1Ok T k_cache_Cache_Copy (s_cache_Cache_Copy n) := mkSf_ok (sf := sf_cache_Cache_Copy n) (it := it_cache_Cache_Copy n) (n := n) hT.t_cache_Cache_Copy sfOk_nil itOk_nil fun a h => e_cache_Cache_Copy n a.1 h
theorem ok_cache_Cache_Drop (hT : LfT T) (n : Nat) : Sf1Ok T k_cache_Cache_Drop (s_cache_Cache_Drop n) := mkSf_ok (sf := sf_cache_Cache_Drop n) (it := it_cache_Cache_Drop n) (n := n) hT.t_cache_Cache_Drop (sfOk_cons (ok_cache_Cache_Get hT n) sfOk_nil) itOk_nil fun a h => e_cache_Cache_Drop n a.1 a.2.1 h
theorem ok_cache_Cache_Last (hT : LfT T) (n : Nat) : Sf1Ok T k_cache_Cache_Last (s_cache_Cache_Last n) := mkSf_ok (sf := sf_cache_Cache_Last n) (it := it_cache_Cache_Last n) (n := n) hT.t_cache_Cache_Last sfOk_nil itOk_nil fun a h => e_cache_Cache_Last n a.1 h
theorem ok_wicketlaw17_plain (hT : LfT T) (n : Nat) : Sf1Ok T k_wicketlaw17_plain (s_wicketlaw17_plain n) := mkSf_ok (sf := sf_wicketlaw17_plain n) (it := it_wicketlaw17_plain n) (n := n) hT.t_wicketlaw17_plain sfOk_nil itOk_nil fun a h => e_wicketlaw17_plain n a.1 h
theorem ok_cache_Cache_All_1 (hT : LfT T) (n : Nat) : It1Ok T k_cache_Cache_All_1 (i_cache_Cache_All_1 n) := mkIt_ok (sf := sf_cache_Cache_All_1 n) (it := it_cache_Cache_All_1 n) (n := n) hT.t_cache_Cache_All_1 sfOk_nil itOk_nil fun V hp up y a1 a2 v => e_cache_Cache_All_1 hp up y n a2.1 v
theorem ok_cache_Cache_All (hT : LfT T) (n : Nat) : Sf1Ok T k_cache_Cache_All (s_cache_Cache_All n) := mkSf_ok (sf := sf_cache_Cache_All n) (it := it_cache_Cache_All n) (n := n) hT.t_cache_Cache_All sfOk_nil itOk_nil fun a h => e_cache_Cache_All n a.1 h
theorem ok_cache_Cache_Entries (hT : LfT T) (n : Nat) : Sf1Ok T k_cache_Cache_Entries (s_cache_Cache_Entries n) := mkSf_ok (sf := sf_cache_Cache_Entries n) (it := it_cache_Cache_Entries n) (n := n) hT.t_cache_Cache_Entries (sfOk_cons (ok_cache_Cache_All hT n) sfOk_nil) (itOk_cons (ok_cache_Cache_All_1 hT n) itOk_nil) fun a h => e_cache_Cache_Entries n a.1 h
theorem ok_cache_Cache_Len (hT : LfT T) (n : Nat) : Sf1Ok T k_cache_Cache_Len (s_cache_Cache_Len n) := mkSf_ok (sf := sf_cache_Cache_Len n) (it := it_cache_Cache_Len n) (n := n) hT.t_cache_Cache_Len (sfOk_cons (ok_cache_Cache_Entries hT n) sfOk_nil) itOk_nil fun a h => e_cache_Cache_Len n a.1 h
theorem ok_wicketlaw17_given (hT : LfT T) (n : Nat) : Sf1Ok T k_wicketlaw17_given (s_wicketlaw17_given n) := mkSf_ok (sf := sf_wicketlaw17_given n) (it := it_wicketlaw17_given n) (n := n) hT.t_wicketlaw17_given (sfOk_cons (ok_cache_Cache_All hT n) (sfOk_cons (ok_wicketlaw17_plain hT n) sfOk_nil)) (itOk_cons (ok_cache_Cache_All_1 hT n) itOk_nil) fun a h => e_wicketlaw17_given n a.1 a.2.1 h
theorem ok_wicketlaw17_CacheDrops (hT : LfT T) (n : Nat) : Sf1Ok T k_wicketlaw17_CacheDrops (s_wicketlaw17_CacheDrops n) := mkSf_ok (sf := sf_wicketlaw17_CacheDrops n) (it := it_wicketlaw17_CacheDrops n) (n := n) hT.t_wicketlaw17_CacheDrops (sfOk_cons (ok_wicketlaw17_fixed hT n) (sfOk_cons (ok_cache_New hT n) (sfOk_cons (ok_cache_Cache_Entries hT n) (sfOk_cons (ok_wicketlaw17_rising hT n) (sfOk_cons (ok_wicketlaw17_value hT n) (sfOk_cons (ok_cache_Cache_Put hT n) (sfOk_cons (ok_cache_Cache_Get hT n) (sfOk_cons (ok_cache_Cache_Copy hT n) (sfOk_cons (ok_cache_Cache_Drop hT n) (sfOk_cons (ok_cache_Cache_Len hT n) sfOk_nil)))))))))) itOk_nil fun a h => e_wicketlaw17_CacheDrops n a.1 a.2.1 h
end Go.Proofs.Ytnfmkiccpjfifaa
