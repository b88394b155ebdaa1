/- The abstract machine's code of the functions at hand, as it is compiled. -/
import Derived.Test.YtnkhlohphaomlaaSim
namespace Go.Proofs.Ytnkhlohphaomlaa
open Go
set_option maxRecDepth 100000
def k_wicketlaw12_LedgerPlays : Nat := 3
def k_wicketlaw12_awake : Nat := 4
def k_ledger_New : Nat := 5
def k_wicketref12_New : Nat := 6
def k_wicketlaw12_pair_plays : Nat := 7
def k_wicketlaw12_pair_same : Nat := 8
def k_ledger_Ledger_Fits : Nat := 9
def k_ledger_Ledger_Reserve : Nat := 10
def k_ledger_Ledger_Append : Nat := 11
def k_ledger_Ledger_Left : Nat := 12
def k_ledger_Ledger_Used : Nat := 13
def k_ledger_Ledger_Reserved : Nat := 14
def k_ledger_Ledger_Marked : Nat := 15
def k_wicketref12_Ledger_Reserve : Nat := 16
def k_wicketref12_Ledger_Append : Nat := 17
def k_ledger_Ledger_Close : Nat := 18
def k_wicketref12_Ledger_Close : Nat := 19
def k_ledger_Ledger_Free : Nat := 20
def k_wicketref12_Ledger_Free : Nat := 21
def k_ledger_Ledger_Copy : Nat := 22
def k_wicketref12_Ledger_Copy : Nat := 23
def k_wicketref12_Ledger_Left : Nat := 24
def k_wicketref12_Ledger_Used : Nat := 25
def k_wicketref12_Ledger_Reserved : Nat := 26
def k_wicketref12_Ledger_Marked : Nat := 27
def k_wicketref12_Ledger_Fits : Nat := 28
def k_ledger_Ledger_has : Nat := 29
def k_wicketref12_Ledger_at : Nat := 30
def k_maps_Clone_map_uint64_int_uint64_int : Nat := 31
-- f3: wicket/wicketlaw12.LedgerPlays
def c_wicketlaw12_LedgerPlays_S0 : AC :=
  .reg [⟨(some 3), .box (.tmp 0), none⟩,
    ⟨(some 4), .box (.tmp 1), none⟩,
    ⟨(some 6), .move (.const (.bool false)), none⟩]
def c_wicketlaw12_LedgerPlays_S1 : AC :=
  .reg [⟨(some 15), .call k_wicketlaw12_awake [], none⟩,
    ⟨(some 16), .un .not (.tmp 15), none⟩]
def c_wicketlaw12_LedgerPlays_S2 : AC :=
  .reg [⟨(some 6), .move (.const (.bool false)), none⟩]
def c_wicketlaw12_LedgerPlays_S3 : AC :=
  .seq c_wicketlaw12_LedgerPlays_S1 <|
  .cond (.tmp 16)
    (.seq c_wicketlaw12_LedgerPlays_S2 <|
    .ret)
    (.skip)
def c_wicketlaw12_LedgerPlays_S4 : AC :=
  .reg [⟨(some 17), .build (List.replicate 4 (.pointer none)) [], none⟩,
    ⟨(some 18), .box (.tmp 17), none⟩,
    ⟨(some 7), .move (.tmp 18), none⟩]
def c_wicketlaw12_LedgerPlays_S5 : AC :=
  .reg [⟨(some 8), .move (.const (.int .i64 0)), none⟩]
def c_wicketlaw12_LedgerPlays_S6 : AC :=
  .reg [⟨(some 19), .move (.tmp 8), none⟩,
    ⟨(some 20), .bin .lss (.tmp 19) (.const (.int .i64 2)), none⟩]
def c_wicketlaw12_LedgerPlays_S7 : AC :=
  .seq c_wicketlaw12_LedgerPlays_S6 <|
  .cond (.tmp 20)
    (.skip)
    (.exit 0)
def c_wicketlaw12_LedgerPlays_S8 : AC :=
  .reg [⟨(some 23), .load true 2 (.tmp 3), none⟩,
    ⟨(some 9), .alloc [(.int .i64 0), (.int .i64 0)], none⟩,
    ⟨none, .store 2 (.tmp 9) (.tmp 23), none⟩]
def c_wicketlaw12_LedgerPlays_S9 : AC :=
  .reg [⟨(some 24), .move (.tmp 8), none⟩,
    ⟨(some 25), .bin .eql (.tmp 24) (.const (.int .i64 1)), none⟩]
def c_wicketlaw12_LedgerPlays_S10 : AC :=
  .seq c_wicketlaw12_LedgerPlays_S9 <|
  .cond (.tmp 25)
    (.reg [⟨(some 26), .load true 2 (.tmp 4), none⟩,
      ⟨none, .store 2 (.tmp 9) (.tmp 26), none⟩])
    (.skip)
def c_wicketlaw12_LedgerPlays_S11 : AC :=
  .reg [⟨(some 28), .idxArr 2 1 (.tmp 9) (.const (.int .i64 0)), none⟩,
    ⟨(some 29), .load false 1 (.tmp 28), none⟩,
    ⟨(some 30), .idxArr 2 1 (.tmp 9) (.const (.int .i64 1)), none⟩,
    ⟨(some 31), .load false 1 (.tmp 30), none⟩,
    ⟨(some 32), .call k_ledger_New [(.tmp 29), (.tmp 31)], none⟩,
    ⟨(some 27), .move (.tmp 32), none⟩,
    ⟨(some 33), .extract (.tmp 27) 0, none⟩,
    ⟨(some 34), .extract (.tmp 27) 1, none⟩,
    ⟨(some 10), .move (.tmp 33), none⟩,
    ⟨(some 11), .move (.tmp 34), none⟩]
def c_wicketlaw12_LedgerPlays_S12 : AC :=
  .reg [⟨(some 36), .idxArr 2 1 (.tmp 9) (.const (.int .i64 0)), none⟩,
    ⟨(some 37), .load false 1 (.tmp 36), none⟩,
    ⟨(some 38), .idxArr 2 1 (.tmp 9) (.const (.int .i64 1)), none⟩,
    ⟨(some 39), .load false 1 (.tmp 38), none⟩,
    ⟨(some 40), .call k_wicketref12_New [(.tmp 37), (.tmp 39)], none⟩,
    ⟨(some 35), .move (.tmp 40), none⟩,
    ⟨(some 41), .extract (.tmp 35) 0, none⟩,
    ⟨(some 42), .extract (.tmp 35) 1, none⟩,
    ⟨(some 12), .move (.tmp 41), none⟩,
    ⟨(some 13), .move (.tmp 42), none⟩]
def c_wicketlaw12_LedgerPlays_S13 : AC :=
  .reg [⟨(some 43), .move (.tmp 11), none⟩,
    ⟨(some 44), .move (.tmp 13), none⟩,
    ⟨(some 45), .bin .neq (.tmp 43) (.tmp 44), none⟩,
    ⟨(some 46), .move (.tmp 45), none⟩,
    ⟨(some 47), .move (.tmp 10), some (46, false)⟩,
    ⟨(some 48), .eqv false .ptr (.tmp 47) (.const (.pointer none)), some (46, false)⟩,
    ⟨(some 49), .move (.tmp 12), some (46, false)⟩,
    ⟨(some 50), .eqv false .ptr (.tmp 49) (.const (.pointer none)), some (46, false)⟩,
    ⟨(some 51), .eqv true .bool (.tmp 48) (.tmp 50), some (46, false)⟩,
    ⟨(some 52), .pick (.tmp 46) (.const (.bool true)) (.tmp 51), none⟩]
def c_wicketlaw12_LedgerPlays_S14 : AC :=
  .reg [⟨(some 6), .move (.const (.bool false)), none⟩]
def c_wicketlaw12_LedgerPlays_S15 : AC :=
  .seq c_wicketlaw12_LedgerPlays_S13 <|
  .cond (.tmp 52)
    (.seq c_wicketlaw12_LedgerPlays_S14 <|
    .ret)
    (.skip)
def c_wicketlaw12_LedgerPlays_S16 : AC :=
  .reg [⟨(some 53), .move (.tmp 12), none⟩,
    ⟨(some 54), .eqv false .ptr (.tmp 53) (.const (.pointer none)), none⟩]
def c_wicketlaw12_LedgerPlays_S17 : AC :=
  .reg [⟨(some 56), .call k_ledger_New [(.const (.int .i64 5)), (.const (.int .i64 4))], none⟩,
    ⟨(some 55), .move (.tmp 56), none⟩,
    ⟨(some 57), .extract (.tmp 55) 0, none⟩,
    ⟨(some 58), .extract (.tmp 55) 1, none⟩,
    ⟨(some 10), .move (.tmp 57), none⟩,
    ⟨(some 11), .move (.tmp 58), none⟩]
def c_wicketlaw12_LedgerPlays_S18 : AC :=
  .reg [⟨(some 60), .call k_wicketref12_New [(.const (.int .i64 5)), (.const (.int .i64 4))], none⟩,
    ⟨(some 59), .move (.tmp 60), none⟩,
    ⟨(some 61), .extract (.tmp 59) 0, none⟩,
    ⟨(some 62), .extract (.tmp 59) 1, none⟩,
    ⟨(some 12), .move (.tmp 61), none⟩,
    ⟨(some 13), .move (.tmp 62), none⟩]
def c_wicketlaw12_LedgerPlays_S19 : AC :=
  .reg [⟨(some 63), .move (.tmp 11), none⟩,
    ⟨(some 64), .bin .neq (.tmp 63) (.const (.int .i64 0)), none⟩,
    ⟨(some 65), .move (.tmp 64), none⟩,
    ⟨(some 66), .move (.tmp 13), some (65, false)⟩,
    ⟨(some 67), .bin .neq (.tmp 66) (.const (.int .i64 0)), some (65, false)⟩,
    ⟨(some 68), .pick (.tmp 65) (.const (.bool true)) (.tmp 67), none⟩,
    ⟨(some 69), .move (.tmp 68), none⟩,
    ⟨(some 70), .move (.tmp 10), some (69, false)⟩,
    ⟨(some 71), .eqv false .ptr (.tmp 70) (.const (.pointer none)), some (69, false)⟩,
    ⟨(some 72), .pick (.tmp 69) (.const (.bool true)) (.tmp 71), none⟩]
def c_wicketlaw12_LedgerPlays_S20 : AC :=
  .reg [⟨(some 6), .move (.const (.bool false)), none⟩]
def c_wicketlaw12_LedgerPlays_S21 : AC :=
  .seq c_wicketlaw12_LedgerPlays_S16 <|
  .cond (.tmp 54)
    (.seq c_wicketlaw12_LedgerPlays_S17 <|
    .seq c_wicketlaw12_LedgerPlays_S18 <|
    .seq c_wicketlaw12_LedgerPlays_S19 <|
    .cond (.tmp 72)
      (.seq c_wicketlaw12_LedgerPlays_S20 <|
      .ret)
      (.skip))
    (.skip)
def c_wicketlaw12_LedgerPlays_S22 : AC :=
  .block 1 <|
    .seq c_wicketlaw12_LedgerPlays_S8 <|
    .seq c_wicketlaw12_LedgerPlays_S10 <|
    .seq c_wicketlaw12_LedgerPlays_S11 <|
    .seq c_wicketlaw12_LedgerPlays_S12 <|
    .seq c_wicketlaw12_LedgerPlays_S15 <|
    .seq c_wicketlaw12_LedgerPlays_S21 <|
    .regd [⟨0, [], false, ⟨(some 73), .move (.tmp 7), none⟩⟩,
      ⟨1, [], false, ⟨(some 74), .move (.tmp 8), none⟩⟩,
      ⟨2, [], false, ⟨(some 75), .move (.tmp 7), none⟩⟩,
      ⟨3, [], false, ⟨(some 76), .move (.tmp 8), none⟩⟩,
      ⟨4, [], false, ⟨(some 77), .move (.tmp 10), none⟩⟩,
      ⟨5, [], false, ⟨(some 78), .move (.tmp 12), none⟩⟩,
      ⟨6, [0], false, ⟨(some 79), .nilCheck (.tmp 73), none⟩⟩,
      ⟨7, [6, 0], false, ⟨(some 80), .fieldAddr 0 (.tmp 79), none⟩⟩,
      ⟨8, [7, 1, 0, 4, 6], false, ⟨(some 81), .idxArr 2 1 (.tmp 80) (.tmp 74), none⟩⟩,
      ⟨10, [2], false, ⟨(some 82), .nilCheck (.tmp 75), none⟩⟩,
      ⟨11, [10, 2], false, ⟨(some 83), .fieldAddr 2 (.tmp 82), none⟩⟩,
      ⟨9, [8, 4, 0, 1, 7, 6], true, ⟨none, .store 1 (.tmp 81) (.tmp 77), none⟩⟩,
      ⟨12, [11, 3, 0, 1, 2, 4, 5, 6, 7, 8, 9, 10], false, ⟨(some 84), .idxArr 2 1 (.tmp 83) (.tmp 76), none⟩⟩,
      ⟨13, [12, 5, 9, 0, 1, 2, 3, 4, 6, 7, 8, 11, 10], true, ⟨none, .store 1 (.tmp 84) (.tmp 78), none⟩⟩]
def c_wicketlaw12_LedgerPlays_L23 : AC :=
  .seq c_wicketlaw12_LedgerPlays_S7 <|
  .seq c_wicketlaw12_LedgerPlays_S22 <|
  .reg [⟨(some 21), .move (.tmp 8), none⟩,
    ⟨(some 22), .bin .add (.tmp 21) (.const (.int .i64 1)), none⟩,
    ⟨(some 8), .move (.tmp 22), none⟩]
def c_wicketlaw12_LedgerPlays_S24 : AC :=
  .seq c_wicketlaw12_LedgerPlays_S5 <|
  .block 0 <|
    .loop c_wicketlaw12_LedgerPlays_L23
def c_wicketlaw12_LedgerPlays_S25 : AC :=
  .reg [⟨(some 14), .move (.const (.int .i64 0)), none⟩]
def c_wicketlaw12_LedgerPlays_S26 : AC :=
  .reg [⟨(some 85), .move (.tmp 14), none⟩,
    ⟨(some 86), .move (.tmp 2), none⟩,
    ⟨(some 87), .lenS (.tmp 86), none⟩,
    ⟨(some 88), .bin .lss (.tmp 85) (.tmp 87), none⟩,
    ⟨(some 89), .move (.tmp 88), none⟩,
    ⟨(some 90), .move (.tmp 14), some (89, true)⟩,
    ⟨(some 91), .bin .lss (.tmp 90) (.const (.int .i64 150)), some (89, true)⟩,
    ⟨(some 92), .pick (.tmp 89) (.tmp 91) (.const (.bool false)), none⟩]
def c_wicketlaw12_LedgerPlays_S27 : AC :=
  .seq c_wicketlaw12_LedgerPlays_S26 <|
  .cond (.tmp 92)
    (.skip)
    (.exit 2)
def c_wicketlaw12_LedgerPlays_S28 : AC :=
  .reg [⟨(some 95), .move (.tmp 7), none⟩,
    ⟨(some 96), .move (.tmp 2), none⟩,
    ⟨(some 97), .move (.tmp 14), none⟩,
    ⟨(some 98), .idxSlice 4 (.tmp 96) (.tmp 97), none⟩,
    ⟨(some 99), .load true 4 (.tmp 98), none⟩,
    ⟨(some 100), .call k_wicketlaw12_pair_plays [(.tmp 95), (.tmp 99)], none⟩,
    ⟨(some 101), .un .not (.tmp 100), none⟩]
def c_wicketlaw12_LedgerPlays_S29 : AC :=
  .reg [⟨(some 6), .move (.const (.bool false)), none⟩]
def c_wicketlaw12_LedgerPlays_S30 : AC :=
  .block 3 <|
    .seq c_wicketlaw12_LedgerPlays_S28 <|
    .cond (.tmp 101)
      (.seq c_wicketlaw12_LedgerPlays_S29 <|
      .ret)
      (.skip)
def c_wicketlaw12_LedgerPlays_L31 : AC :=
  .seq c_wicketlaw12_LedgerPlays_S27 <|
  .seq c_wicketlaw12_LedgerPlays_S30 <|
  .reg [⟨(some 93), .move (.tmp 14), none⟩,
    ⟨(some 94), .bin .add (.tmp 93) (.const (.int .i64 1)), none⟩,
    ⟨(some 14), .move (.tmp 94), none⟩]
def c_wicketlaw12_LedgerPlays_S32 : AC :=
  .seq c_wicketlaw12_LedgerPlays_S25 <|
  .block 2 <|
    .loop c_wicketlaw12_LedgerPlays_L31
def c_wicketlaw12_LedgerPlays_S33 : AC :=
  .reg [⟨(some 102), .move (.tmp 7), none⟩,
    ⟨(some 103), .build [(.int .i64 0), (.int .i64 0), (.int .u64 0), (.int .i64 0)] [], none⟩,
    ⟨(some 104), .call k_wicketlaw12_pair_same [(.tmp 102), (.const (.int .i64 0)), (.tmp 103)], none⟩,
    ⟨(some 105), .move (.tmp 104), none⟩,
    ⟨(some 106), .move (.tmp 7), some (105, true)⟩,
    ⟨(some 107), .build [(.int .i64 0), (.int .i64 0), (.int .u64 0), (.int .i64 0)] [], some (105, true)⟩,
    ⟨(some 108), .call k_wicketlaw12_pair_same [(.tmp 106), (.const (.int .i64 1)), (.tmp 107)], some (105, true)⟩,
    ⟨(some 109), .pick (.tmp 105) (.tmp 108) (.const (.bool false)), none⟩,
    ⟨(some 6), .move (.tmp 109), none⟩]
def c_wicketlaw12_LedgerPlays : AFun := ⟨[.tmp 6],
  .seq c_wicketlaw12_LedgerPlays_S0 <|
  .seq c_wicketlaw12_LedgerPlays_S3 <|
  .seq c_wicketlaw12_LedgerPlays_S4 <|
  .seq c_wicketlaw12_LedgerPlays_S24 <|
  .seq c_wicketlaw12_LedgerPlays_S32 <|
  .seq c_wicketlaw12_LedgerPlays_S33 <|
  .ret, none⟩
-- f4: wicket/wicketlaw12.awake
def c_wicketlaw12_awake : AFun := ⟨[.tmp 0],
  .seq (.reg [⟨(some 0), .move (.const (.bool false)), none⟩]) <|
  .seq (.reg [⟨(some 12), .call k_ledger_New [(.const (.int .i64 4)), (.const (.int .i64 3))], none⟩,
      ⟨(some 11), .move (.tmp 12), none⟩,
      ⟨(some 13), .extract (.tmp 11) 0, none⟩,
      ⟨(some 14), .extract (.tmp 11) 1, none⟩,
      ⟨(some 1), .move (.tmp 13), none⟩,
      ⟨(some 2), .move (.tmp 14), none⟩]) <|
  .seq (.seq (.reg [⟨(some 15), .move (.const (.bool false)), none⟩,
        ⟨(some 16), .move (.tmp 2), some (15, false)⟩,
        ⟨(some 17), .bin .neq (.tmp 16) (.const (.int .i64 0)), some (15, false)⟩,
        ⟨(some 18), .pick (.tmp 15) (.const (.bool true)) (.tmp 17), none⟩,
        ⟨(some 19), .move (.tmp 18), none⟩,
        ⟨(some 20), .move (.tmp 1), some (19, false)⟩,
        ⟨(some 21), .eqv false .ptr (.tmp 20) (.const (.pointer none)), some (19, false)⟩,
        ⟨(some 22), .pick (.tmp 19) (.const (.bool true)) (.tmp 21), none⟩,
        ⟨(some 23), .move (.tmp 22), none⟩,
        ⟨(some 24), .move (.tmp 1), some (23, false)⟩,
        ⟨(some 25), .call k_ledger_Ledger_Fits [(.tmp 24), (.const (.int .i64 4))], some (23, false)⟩,
        ⟨(some 26), .un .not (.tmp 25), some (23, false)⟩,
        ⟨(some 27), .pick (.tmp 23) (.const (.bool true)) (.tmp 26), none⟩,
        ⟨(some 28), .move (.tmp 27), none⟩,
        ⟨(some 29), .move (.tmp 1), some (28, false)⟩,
        ⟨(some 30), .call k_ledger_Ledger_Fits [(.tmp 29), (.const (.int .i64 5))], some (28, false)⟩,
        ⟨(some 31), .pick (.tmp 28) (.const (.bool true)) (.tmp 30), none⟩]) <|
    .cond (.tmp 31)
      (.seq (.reg [⟨(some 0), .move (.const (.bool false)), none⟩]) <|
      .ret)
      (.skip)) <|
  .seq (.reg [⟨(some 32), .move (.tmp 1), none⟩,
      ⟨(some 33), .call k_ledger_Ledger_Reserve [(.tmp 32), (.const (.int .u64 7)), (.const (.int .i64 3))], none⟩,
      ⟨(some 34), .move (.tmp 1), none⟩,
      ⟨(some 35), .call k_ledger_Ledger_Reserve [(.tmp 34), (.const (.int .u64 7)), (.const (.int .i64 1))], none⟩,
      ⟨(some 36), .move (.tmp 1), none⟩,
      ⟨(some 37), .call k_ledger_Ledger_Reserve [(.tmp 36), (.const (.int .u64 8)), (.const (.int .i64 2))], none⟩,
      ⟨(some 3), .move (.tmp 33), none⟩,
      ⟨(some 4), .move (.tmp 35), none⟩,
      ⟨(some 5), .move (.tmp 37), none⟩]) <|
  .seq (.reg [⟨(some 38), .move (.tmp 1), none⟩,
      ⟨(some 39), .call k_ledger_Ledger_Append [(.tmp 38), (.const (.int .u64 7))], none⟩,
      ⟨(some 40), .move (.tmp 1), none⟩,
      ⟨(some 41), .call k_ledger_Ledger_Append [(.tmp 40), (.const (.int .u64 7))], none⟩,
      ⟨(some 42), .move (.tmp 1), none⟩,
      ⟨(some 43), .call k_ledger_Ledger_Append [(.tmp 42), (.const (.int .u64 9))], none⟩,
      ⟨(some 6), .move (.tmp 39), none⟩,
      ⟨(some 7), .move (.tmp 41), none⟩,
      ⟨(some 8), .move (.tmp 43), none⟩]) <|
  .seq (.reg [⟨(some 45), .move (.tmp 1), none⟩,
      ⟨(some 46), .call k_ledger_Ledger_Left [(.tmp 45), (.const (.int .u64 7))], none⟩,
      ⟨(some 44), .move (.tmp 46), none⟩,
      ⟨(some 47), .extract (.tmp 44) 0, none⟩,
      ⟨(some 48), .extract (.tmp 44) 1, none⟩,
      ⟨(some 9), .move (.tmp 47), none⟩,
      ⟨(some 10), .move (.tmp 48), none⟩]) <|
  .seq (.reg [⟨(some 49), .move (.tmp 3), none⟩,
      ⟨(some 50), .bin .eql (.tmp 49) (.const (.int .i64 0)), none⟩,
      ⟨(some 51), .move (.tmp 50), none⟩,
      ⟨(some 52), .move (.tmp 4), some (51, true)⟩,
      ⟨(some 53), .bin .eql (.tmp 52) (.const (.int .i64 110)), some (51, true)⟩,
      ⟨(some 54), .pick (.tmp 51) (.tmp 53) (.const (.bool false)), none⟩,
      ⟨(some 55), .move (.tmp 54), none⟩,
      ⟨(some 56), .move (.tmp 5), some (55, true)⟩,
      ⟨(some 57), .bin .eql (.tmp 56) (.const (.int .i64 120)), some (55, true)⟩,
      ⟨(some 58), .pick (.tmp 55) (.tmp 57) (.const (.bool false)), none⟩,
      ⟨(some 59), .move (.tmp 58), none⟩,
      ⟨(some 60), .move (.tmp 6), some (59, true)⟩,
      ⟨(some 61), .bin .eql (.tmp 60) (.const (.int .i64 0)), some (59, true)⟩,
      ⟨(some 62), .pick (.tmp 59) (.tmp 61) (.const (.bool false)), none⟩,
      ⟨(some 63), .move (.tmp 62), none⟩,
      ⟨(some 64), .move (.tmp 7), some (63, true)⟩,
      ⟨(some 65), .bin .eql (.tmp 64) (.const (.int .i64 0)), some (63, true)⟩,
      ⟨(some 66), .pick (.tmp 63) (.tmp 65) (.const (.bool false)), none⟩,
      ⟨(some 67), .move (.tmp 66), none⟩,
      ⟨(some 68), .move (.tmp 8), some (67, true)⟩,
      ⟨(some 69), .bin .eql (.tmp 68) (.const (.int .i64 110)), some (67, true)⟩,
      ⟨(some 70), .pick (.tmp 67) (.tmp 69) (.const (.bool false)), none⟩,
      ⟨(some 71), .move (.tmp 70), none⟩,
      ⟨(some 72), .move (.tmp 1), some (71, true)⟩,
      ⟨(some 73), .call k_ledger_Ledger_Used [(.tmp 72)], some (71, true)⟩,
      ⟨(some 74), .bin .eql (.tmp 73) (.const (.int .i64 2)), some (71, true)⟩,
      ⟨(some 75), .pick (.tmp 71) (.tmp 74) (.const (.bool false)), none⟩,
      ⟨(some 76), .move (.tmp 75), none⟩,
      ⟨(some 77), .move (.tmp 1), some (76, true)⟩,
      ⟨(some 78), .call k_ledger_Ledger_Reserved [(.tmp 77)], some (76, true)⟩,
      ⟨(some 79), .bin .eql (.tmp 78) (.const (.int .i64 1)), some (76, true)⟩,
      ⟨(some 80), .pick (.tmp 76) (.tmp 79) (.const (.bool false)), none⟩,
      ⟨(some 81), .move (.tmp 80), none⟩,
      ⟨(some 82), .move (.tmp 9), some (81, true)⟩,
      ⟨(some 83), .bin .eql (.tmp 82) (.const (.int .i64 1)), some (81, true)⟩,
      ⟨(some 84), .pick (.tmp 81) (.tmp 83) (.const (.bool false)), none⟩,
      ⟨(some 85), .move (.tmp 84), none⟩,
      ⟨(some 86), .move (.tmp 10), some (85, true)⟩,
      ⟨(some 87), .pick (.tmp 85) (.tmp 86) (.const (.bool false)), none⟩,
      ⟨(some 88), .move (.tmp 87), none⟩,
      ⟨(some 89), .move (.tmp 1), some (88, true)⟩,
      ⟨(some 90), .call k_ledger_Ledger_Marked [(.tmp 89)], some (88, true)⟩,
      ⟨(some 91), .un .not (.tmp 90), some (88, true)⟩,
      ⟨(some 92), .pick (.tmp 88) (.tmp 91) (.const (.bool false)), none⟩,
      ⟨(some 0), .move (.tmp 92), none⟩]) <|
  .ret, none⟩
-- f5: wicket/ledger.New
def c_ledger_New : AFun := ⟨[.tmp 4, .tmp 5],
  .seq (.reg [⟨(some 4), .move (.const (.pointer none)), none⟩,
      ⟨(some 5), .move (.const (.int .i64 0)), none⟩]) <|
  .seq (.seq (.reg [⟨(some 6), .move (.tmp 0), none⟩,
        ⟨(some 7), .bin .lss (.tmp 6) (.const (.int .i64 2)), none⟩,
        ⟨(some 8), .move (.tmp 7), none⟩,
        ⟨(some 9), .move (.tmp 0), some (8, false)⟩,
        ⟨(some 10), .bin .gtr (.tmp 9) (.const (.int .i64 64)), some (8, false)⟩,
        ⟨(some 11), .pick (.tmp 8) (.const (.bool true)) (.tmp 10), none⟩,
        ⟨(some 12), .move (.tmp 11), none⟩,
        ⟨(some 13), .move (.tmp 1), some (12, false)⟩,
        ⟨(some 14), .bin .lss (.tmp 13) (.const (.int .i64 1)), some (12, false)⟩,
        ⟨(some 15), .pick (.tmp 12) (.const (.bool true)) (.tmp 14), none⟩,
        ⟨(some 16), .move (.tmp 15), none⟩,
        ⟨(some 17), .move (.tmp 1), some (16, false)⟩,
        ⟨(some 18), .move (.tmp 0), some (16, false)⟩,
        ⟨(some 19), .bin .gtr (.tmp 17) (.tmp 18), some (16, false)⟩,
        ⟨(some 20), .pick (.tmp 16) (.const (.bool true)) (.tmp 19), none⟩]) <|
    .cond (.tmp 20)
      (.seq (.reg [⟨(some 4), .move (.const (.pointer none)), none⟩,
          ⟨(some 5), .move (.const (.int .i64 2)), none⟩]) <|
      .ret)
      (.skip)) <|
  .seq (.reg [⟨(some 21), .move (.tmp 0), none⟩,
      ⟨(some 22), .move (.tmp 1), none⟩,
      ⟨(some 23), .makeMap, none⟩,
      ⟨(some 24), .build [(.int .i64 0), (.int .i64 0), (.int .i64 0), (.int .i64 0), (.map none)] [(0, 1, (.tmp 21)), (1, 1, (.tmp 22)), (4, 1, (.tmp 23))], none⟩,
      ⟨(some 25), .box (.tmp 24), none⟩,
      ⟨(some 4), .move (.tmp 25), none⟩,
      ⟨(some 5), .move (.const (.int .i64 0)), none⟩]) <|
  .ret, none⟩
-- f6: wicket/wicketref12.New
def c_wicketref12_New : AFun := ⟨[.tmp 4, .tmp 5],
  .seq (.reg [⟨(some 4), .move (.const (.pointer none)), none⟩,
      ⟨(some 5), .move (.const (.int .i64 0)), none⟩]) <|
  .seq (.seq (.reg [⟨(some 6), .move (.tmp 0), none⟩,
        ⟨(some 7), .bin .lss (.tmp 6) (.const (.int .i64 2)), none⟩,
        ⟨(some 8), .move (.tmp 7), none⟩,
        ⟨(some 9), .move (.tmp 0), some (8, false)⟩,
        ⟨(some 10), .bin .gtr (.tmp 9) (.const (.int .i64 64)), some (8, false)⟩,
        ⟨(some 11), .pick (.tmp 8) (.const (.bool true)) (.tmp 10), none⟩,
        ⟨(some 12), .move (.tmp 11), none⟩,
        ⟨(some 13), .move (.tmp 1), some (12, false)⟩,
        ⟨(some 14), .bin .lss (.tmp 13) (.const (.int .i64 1)), some (12, false)⟩,
        ⟨(some 15), .pick (.tmp 12) (.const (.bool true)) (.tmp 14), none⟩,
        ⟨(some 16), .move (.tmp 15), none⟩,
        ⟨(some 17), .move (.tmp 1), some (16, false)⟩,
        ⟨(some 18), .move (.tmp 0), some (16, false)⟩,
        ⟨(some 19), .bin .gtr (.tmp 17) (.tmp 18), some (16, false)⟩,
        ⟨(some 20), .pick (.tmp 16) (.const (.bool true)) (.tmp 19), none⟩]) <|
    .cond (.tmp 20)
      (.seq (.reg [⟨(some 4), .move (.const (.pointer none)), none⟩,
          ⟨(some 5), .move (.const (.int .i64 2)), none⟩]) <|
      .ret)
      (.skip)) <|
  .seq (.reg [⟨(some 21), .move (.tmp 0), none⟩,
      ⟨(some 22), .move (.tmp 1), none⟩,
      ⟨(some 23), .build [(.int .i64 0), (.int .i64 0), (.int .i64 0), (.int .i64 0), (.slice none 0 0)] [(0, 1, (.tmp 21)), (1, 1, (.tmp 22))], none⟩,
      ⟨(some 24), .box (.tmp 23), none⟩,
      ⟨(some 4), .move (.tmp 24), none⟩,
      ⟨(some 5), .move (.const (.int .i64 0)), none⟩]) <|
  .ret, none⟩
-- f7: (*wicket/wicketlaw12.pair).plays
def c_wicketlaw12_pair_plays_S0 : AC :=
  .reg [⟨(some 3), .box (.tmp 1), none⟩,
    ⟨(some 4), .move (.const (.bool false)), none⟩]
def c_wicketlaw12_pair_plays_S1 : AC :=
  .reg [⟨(some 10), .fieldAddr 1 (.tmp 3), none⟩,
    ⟨(some 11), .load false 1 (.tmp 10), none⟩,
    ⟨(some 12), .bin .rem (.tmp 11) (.const (.int .i64 2)), none⟩,
    ⟨(some 13), .bin .add (.tmp 12) (.const (.int .i64 2)), none⟩,
    ⟨(some 14), .bin .rem (.tmp 13) (.const (.int .i64 2)), none⟩,
    ⟨(some 5), .move (.tmp 14), none⟩]
def c_wicketlaw12_pair_plays_S2 : AC :=
  .regd [⟨0, [], false, ⟨(some 15), .move (.tmp 0), none⟩⟩,
    ⟨1, [], false, ⟨(some 16), .move (.tmp 5), none⟩⟩,
    ⟨2, [0], false, ⟨(some 17), .nilCheck (.tmp 15), none⟩⟩,
    ⟨3, [2, 0], false, ⟨(some 18), .fieldAddr 0 (.tmp 17), none⟩⟩,
    ⟨4, [3, 1, 2, 0], false, ⟨(some 19), .idxArr 2 1 (.tmp 18) (.tmp 16), none⟩⟩,
    ⟨5, [4, 3, 1, 2, 0], false, ⟨(some 20), .load false 1 (.tmp 19), none⟩⟩,
    ⟨6, [], false, ⟨(some 21), .move (.tmp 0), none⟩⟩,
    ⟨7, [], false, ⟨(some 22), .move (.tmp 5), none⟩⟩,
    ⟨8, [6], false, ⟨(some 23), .nilCheck (.tmp 21), none⟩⟩,
    ⟨9, [8, 6], false, ⟨(some 24), .fieldAddr 2 (.tmp 23), none⟩⟩,
    ⟨10, [9, 7, 8, 6], false, ⟨(some 25), .idxArr 2 1 (.tmp 24) (.tmp 22), none⟩⟩,
    ⟨11, [10, 9, 7, 8, 6], false, ⟨(some 26), .load false 1 (.tmp 25), none⟩⟩,
    ⟨12, [5, 0, 1, 2, 3, 4], false, ⟨(some 6), .move (.tmp 20), none⟩⟩,
    ⟨13, [11, 12, 0, 1, 2, 3, 4, 5, 6, 7, 8, 9, 10], false, ⟨(some 7), .move (.tmp 26), none⟩⟩]
def c_wicketlaw12_pair_plays_S3 : AC :=
  .reg [⟨(some 8), .move (.const (.int .i64 0)), none⟩,
    ⟨(some 9), .move (.const (.int .i64 0)), none⟩]
def c_wicketlaw12_pair_plays_S4 : AC :=
  .reg [⟨(some 27), .fieldAddr 0 (.tmp 3), none⟩,
    ⟨(some 28), .load false 1 (.tmp 27), none⟩]
def c_wicketlaw12_pair_plays_S5 : AC :=
  .reg [⟨(some 30), .bin .eql (.tmp 28) (.const (.int .i64 1)), none⟩,
    ⟨(some 29), .move (.tmp 30), none⟩]
def c_wicketlaw12_pair_plays_S6 : AC :=
  .reg [⟨(some 44), .bin .eql (.tmp 28) (.const (.int .i64 2)), none⟩,
    ⟨(some 43), .move (.tmp 44), none⟩]
def c_wicketlaw12_pair_plays_S7 : AC :=
  .reg [⟨(some 54), .bin .eql (.tmp 28) (.const (.int .i64 3)), none⟩,
    ⟨(some 53), .move (.tmp 54), none⟩]
def c_wicketlaw12_pair_plays_S8 : AC :=
  .reg [⟨(some 64), .bin .eql (.tmp 28) (.const (.int .i64 4)), none⟩,
    ⟨(some 63), .move (.tmp 64), none⟩]
def c_wicketlaw12_pair_plays_S9 : AC :=
  .reg [⟨(some 74), .bin .eql (.tmp 28) (.const (.int .i64 5)), none⟩,
    ⟨(some 73), .move (.tmp 74), none⟩]
def c_wicketlaw12_pair_plays_S10 : AC :=
  .regd [⟨0, [], false, ⟨(some 75), .move (.tmp 0), none⟩⟩,
    ⟨1, [], false, ⟨(some 76), .move (.tmp 5), none⟩⟩,
    ⟨2, [1], false, ⟨(some 77), .bin .sub (.const (.int .i64 1)) (.tmp 76), none⟩⟩,
    ⟨3, [], false, ⟨(some 78), .move (.tmp 0), none⟩⟩,
    ⟨4, [], false, ⟨(some 79), .move (.tmp 5), none⟩⟩,
    ⟨5, [4], false, ⟨(some 80), .bin .sub (.const (.int .i64 1)) (.tmp 79), none⟩⟩,
    ⟨6, [], false, ⟨(some 81), .move (.tmp 6), none⟩⟩,
    ⟨8, [], false, ⟨(some 83), .move (.tmp 7), none⟩⟩,
    ⟨10, [0], false, ⟨(some 85), .nilCheck (.tmp 75), none⟩⟩,
    ⟨11, [10, 0], false, ⟨(some 86), .fieldAddr 0 (.tmp 85), none⟩⟩,
    ⟨14, [3], false, ⟨(some 88), .nilCheck (.tmp 78), none⟩⟩,
    ⟨15, [14, 3], false, ⟨(some 89), .fieldAddr 2 (.tmp 88), none⟩⟩,
    ⟨7, [6], true, ⟨(some 82), .call k_ledger_Ledger_Copy [(.tmp 81)], none⟩⟩,
    ⟨9, [8, 7, 6], true, ⟨(some 84), .call k_wicketref12_Ledger_Copy [(.tmp 83)], none⟩⟩,
    ⟨12, [11, 2, 0, 1, 6, 7, 9, 10, 8], false, ⟨(some 87), .idxArr 2 1 (.tmp 86) (.tmp 77), none⟩⟩,
    ⟨13, [12, 7, 9, 0, 1, 2, 6, 11, 10, 8], true, ⟨none, .store 1 (.tmp 87) (.tmp 82), none⟩⟩,
    ⟨16, [15, 5, 0, 1, 2, 3, 4, 6, 7, 8, 9, 10, 11, 12, 13, 14], false, ⟨(some 90), .idxArr 2 1 (.tmp 89) (.tmp 80), none⟩⟩,
    ⟨17, [16, 9, 13, 0, 1, 2, 3, 4, 5, 6, 7, 8, 10, 11, 12, 15, 14], true, ⟨none, .store 1 (.tmp 90) (.tmp 84), none⟩⟩]
def c_wicketlaw12_pair_plays_S11 : AC :=
  .reg [⟨(some 91), .move (.tmp 0), none⟩,
    ⟨(some 92), .move (.tmp 5), none⟩,
    ⟨(some 93), .bin .sub (.const (.int .i64 1)) (.tmp 92), none⟩,
    ⟨(some 94), .nilCheck (.tmp 91), none⟩,
    ⟨(some 95), .fieldAddr 0 (.tmp 94), none⟩,
    ⟨(some 96), .idxArr 2 1 (.tmp 95) (.tmp 93), none⟩,
    ⟨(some 97), .load false 1 (.tmp 96), none⟩,
    ⟨(some 98), .eqv false .ptr (.tmp 97) (.const (.pointer none)), none⟩]
def c_wicketlaw12_pair_plays_S12 : AC :=
  .reg [⟨(some 4), .move (.const (.bool false)), none⟩]
def c_wicketlaw12_pair_plays_S13 : AC :=
  .seq c_wicketlaw12_pair_plays_S4 <|
  .block 0 <|
    .seq c_wicketlaw12_pair_plays_S5 <|
    .cond (.tmp 29)
      (.regd [⟨0, [], false, ⟨(some 31), .move (.tmp 6), none⟩⟩,
        ⟨1, [], false, ⟨(some 32), .fieldAddr 2 (.tmp 3), none⟩⟩,
        ⟨2, [1], false, ⟨(some 33), .load false 1 (.tmp 32), none⟩⟩,
        ⟨3, [], false, ⟨(some 34), .fieldAddr 3 (.tmp 3), none⟩⟩,
        ⟨4, [3], false, ⟨(some 35), .load false 1 (.tmp 34), none⟩⟩,
        ⟨6, [], false, ⟨(some 37), .move (.tmp 7), none⟩⟩,
        ⟨7, [], false, ⟨(some 38), .fieldAddr 2 (.tmp 3), none⟩⟩,
        ⟨8, [7], false, ⟨(some 39), .load false 1 (.tmp 38), none⟩⟩,
        ⟨9, [], false, ⟨(some 40), .fieldAddr 3 (.tmp 3), none⟩⟩,
        ⟨10, [9], false, ⟨(some 41), .load false 1 (.tmp 40), none⟩⟩,
        ⟨5, [0, 2, 4, 1, 3], true, ⟨(some 36), .call k_ledger_Ledger_Reserve [(.tmp 31), (.tmp 33), (.tmp 35)], none⟩⟩,
        ⟨11, [6, 8, 10, 5, 7, 9, 0, 2, 4, 1, 3], true, ⟨(some 42), .call k_wicketref12_Ledger_Reserve [(.tmp 37), (.tmp 39), (.tmp 41)], none⟩⟩,
        ⟨12, [5, 11, 0, 1, 2, 3, 4, 6, 8, 10, 7, 9], false, ⟨(some 8), .move (.tmp 36), none⟩⟩,
        ⟨13, [11, 12, 0, 1, 2, 3, 4, 5, 6, 7, 8, 9, 10], false, ⟨(some 9), .move (.tmp 42), none⟩⟩])
      (.seq c_wicketlaw12_pair_plays_S6 <|
      .cond (.tmp 43)
        (.regd [⟨0, [], false, ⟨(some 45), .move (.tmp 6), none⟩⟩,
          ⟨1, [], false, ⟨(some 46), .fieldAddr 2 (.tmp 3), none⟩⟩,
          ⟨2, [1], false, ⟨(some 47), .load false 1 (.tmp 46), none⟩⟩,
          ⟨4, [], false, ⟨(some 49), .move (.tmp 7), none⟩⟩,
          ⟨5, [], false, ⟨(some 50), .fieldAddr 2 (.tmp 3), none⟩⟩,
          ⟨6, [5], false, ⟨(some 51), .load false 1 (.tmp 50), none⟩⟩,
          ⟨3, [0, 2, 1], true, ⟨(some 48), .call k_ledger_Ledger_Append [(.tmp 45), (.tmp 47)], none⟩⟩,
          ⟨7, [4, 6, 3, 5, 0, 2, 1], true, ⟨(some 52), .call k_wicketref12_Ledger_Append [(.tmp 49), (.tmp 51)], none⟩⟩,
          ⟨8, [3, 7, 0, 1, 2, 4, 6, 5], false, ⟨(some 8), .move (.tmp 48), none⟩⟩,
          ⟨9, [7, 8, 0, 1, 2, 3, 4, 5, 6], false, ⟨(some 9), .move (.tmp 52), none⟩⟩])
        (.seq c_wicketlaw12_pair_plays_S7 <|
        .cond (.tmp 53)
          (.regd [⟨0, [], false, ⟨(some 55), .move (.tmp 6), none⟩⟩,
            ⟨1, [], false, ⟨(some 56), .fieldAddr 2 (.tmp 3), none⟩⟩,
            ⟨2, [1], false, ⟨(some 57), .load false 1 (.tmp 56), none⟩⟩,
            ⟨4, [], false, ⟨(some 59), .move (.tmp 7), none⟩⟩,
            ⟨5, [], false, ⟨(some 60), .fieldAddr 2 (.tmp 3), none⟩⟩,
            ⟨6, [5], false, ⟨(some 61), .load false 1 (.tmp 60), none⟩⟩,
            ⟨3, [0, 2, 1], true, ⟨(some 58), .call k_ledger_Ledger_Close [(.tmp 55), (.tmp 57)], none⟩⟩,
            ⟨7, [4, 6, 3, 5, 0, 2, 1], true, ⟨(some 62), .call k_wicketref12_Ledger_Close [(.tmp 59), (.tmp 61)], none⟩⟩,
            ⟨8, [3, 7, 0, 1, 2, 4, 6, 5], false, ⟨(some 8), .move (.tmp 58), none⟩⟩,
            ⟨9, [7, 8, 0, 1, 2, 3, 4, 5, 6], false, ⟨(some 9), .move (.tmp 62), none⟩⟩])
          (.seq c_wicketlaw12_pair_plays_S8 <|
          .cond (.tmp 63)
            (.regd [⟨0, [], false, ⟨(some 65), .move (.tmp 6), none⟩⟩,
              ⟨1, [], false, ⟨(some 66), .fieldAddr 3 (.tmp 3), none⟩⟩,
              ⟨2, [1], false, ⟨(some 67), .load false 1 (.tmp 66), none⟩⟩,
              ⟨4, [], false, ⟨(some 69), .move (.tmp 7), none⟩⟩,
              ⟨5, [], false, ⟨(some 70), .fieldAddr 3 (.tmp 3), none⟩⟩,
              ⟨6, [5], false, ⟨(some 71), .load false 1 (.tmp 70), none⟩⟩,
              ⟨3, [0, 2, 1], true, ⟨(some 68), .call k_ledger_Ledger_Free [(.tmp 65), (.tmp 67)], none⟩⟩,
              ⟨7, [4, 6, 3, 5, 0, 2, 1], true, ⟨(some 72), .call k_wicketref12_Ledger_Free [(.tmp 69), (.tmp 71)], none⟩⟩,
              ⟨8, [3, 7, 0, 1, 2, 4, 6, 5], false, ⟨(some 8), .move (.tmp 68), none⟩⟩,
              ⟨9, [7, 8, 0, 1, 2, 3, 4, 5, 6], false, ⟨(some 9), .move (.tmp 72), none⟩⟩])
            (.seq c_wicketlaw12_pair_plays_S9 <|
            .cond (.tmp 73)
              (.seq c_wicketlaw12_pair_plays_S10 <|
              .seq c_wicketlaw12_pair_plays_S11 <|
              .cond (.tmp 98)
                (.seq c_wicketlaw12_pair_plays_S12 <|
                .ret)
                (.skip))
              (.skip)))))
def c_wicketlaw12_pair_plays_S14 : AC :=
  .reg [⟨(some 99), .move (.tmp 8), none⟩,
    ⟨(some 100), .move (.tmp 9), none⟩,
    ⟨(some 101), .bin .eql (.tmp 99) (.tmp 100), none⟩,
    ⟨(some 102), .move (.tmp 101), none⟩,
    ⟨(some 103), .move (.tmp 0), some (102, true)⟩,
    ⟨(some 104), .load true 4 (.tmp 3), some (102, true)⟩,
    ⟨(some 105), .call k_wicketlaw12_pair_same [(.tmp 103), (.const (.int .i64 0)), (.tmp 104)], some (102, true)⟩,
    ⟨(some 106), .pick (.tmp 102) (.tmp 105) (.const (.bool false)), none⟩,
    ⟨(some 107), .move (.tmp 106), none⟩,
    ⟨(some 108), .move (.tmp 0), some (107, true)⟩,
    ⟨(some 109), .load true 4 (.tmp 3), some (107, true)⟩,
    ⟨(some 110), .call k_wicketlaw12_pair_same [(.tmp 108), (.const (.int .i64 1)), (.tmp 109)], some (107, true)⟩,
    ⟨(some 111), .pick (.tmp 107) (.tmp 110) (.const (.bool false)), none⟩,
    ⟨(some 4), .move (.tmp 111), none⟩]
def c_wicketlaw12_pair_plays : AFun := ⟨[.tmp 4],
  .seq c_wicketlaw12_pair_plays_S0 <|
  .seq c_wicketlaw12_pair_plays_S1 <|
  .seq c_wicketlaw12_pair_plays_S2 <|
  .seq c_wicketlaw12_pair_plays_S3 <|
  .seq c_wicketlaw12_pair_plays_S13 <|
  .seq c_wicketlaw12_pair_plays_S14 <|
  .ret, none⟩
-- f8: (*wicket/wicketlaw12.pair).same
def c_wicketlaw12_pair_same_S0 : AC :=
  .reg [⟨(some 5), .box (.tmp 2), none⟩,
    ⟨(some 6), .move (.const (.bool false)), none⟩]
def c_wicketlaw12_pair_same_S1 : AC :=
  .regd [⟨0, [], false, ⟨(some 14), .move (.tmp 0), none⟩⟩,
    ⟨1, [], false, ⟨(some 15), .move (.tmp 1), none⟩⟩,
    ⟨2, [0], false, ⟨(some 16), .nilCheck (.tmp 14), none⟩⟩,
    ⟨3, [2, 0], false, ⟨(some 17), .fieldAddr 0 (.tmp 16), none⟩⟩,
    ⟨4, [3, 1, 2, 0], false, ⟨(some 18), .idxArr 2 1 (.tmp 17) (.tmp 15), none⟩⟩,
    ⟨5, [4, 3, 1, 2, 0], false, ⟨(some 19), .load false 1 (.tmp 18), none⟩⟩,
    ⟨6, [], false, ⟨(some 20), .move (.tmp 0), none⟩⟩,
    ⟨7, [], false, ⟨(some 21), .move (.tmp 1), none⟩⟩,
    ⟨8, [6], false, ⟨(some 22), .nilCheck (.tmp 20), none⟩⟩,
    ⟨9, [8, 6], false, ⟨(some 23), .fieldAddr 2 (.tmp 22), none⟩⟩,
    ⟨10, [9, 7, 8, 6], false, ⟨(some 24), .idxArr 2 1 (.tmp 23) (.tmp 21), none⟩⟩,
    ⟨11, [10, 9, 7, 8, 6], false, ⟨(some 25), .load false 1 (.tmp 24), none⟩⟩,
    ⟨12, [5, 0, 1, 2, 3, 4], false, ⟨(some 7), .move (.tmp 19), none⟩⟩,
    ⟨13, [11, 12, 0, 1, 2, 3, 4, 5, 6, 7, 8, 9, 10], false, ⟨(some 8), .move (.tmp 25), none⟩⟩]
def c_wicketlaw12_pair_same_S2 : AC :=
  .reg [⟨(some 27), .move (.tmp 7), none⟩,
    ⟨(some 28), .fieldAddr 2 (.tmp 5), none⟩,
    ⟨(some 29), .load false 1 (.tmp 28), none⟩,
    ⟨(some 30), .call k_ledger_Ledger_Left [(.tmp 27), (.tmp 29)], none⟩,
    ⟨(some 26), .move (.tmp 30), none⟩,
    ⟨(some 31), .extract (.tmp 26) 0, none⟩,
    ⟨(some 32), .extract (.tmp 26) 1, none⟩,
    ⟨(some 9), .move (.tmp 31), none⟩,
    ⟨(some 10), .move (.tmp 32), none⟩]
def c_wicketlaw12_pair_same_S3 : AC :=
  .reg [⟨(some 34), .move (.tmp 8), none⟩,
    ⟨(some 35), .fieldAddr 2 (.tmp 5), none⟩,
    ⟨(some 36), .load false 1 (.tmp 35), none⟩,
    ⟨(some 37), .call k_wicketref12_Ledger_Left [(.tmp 34), (.tmp 36)], none⟩,
    ⟨(some 33), .move (.tmp 37), none⟩,
    ⟨(some 38), .extract (.tmp 33) 0, none⟩,
    ⟨(some 39), .extract (.tmp 33) 1, none⟩,
    ⟨(some 11), .move (.tmp 38), none⟩,
    ⟨(some 12), .move (.tmp 39), none⟩]
def c_wicketlaw12_pair_same_S4 : AC :=
  .regd [⟨0, [], false, ⟨(some 40), .move (.tmp 7), none⟩⟩,
    ⟨2, [], false, ⟨(some 42), .move (.tmp 8), none⟩⟩,
    ⟨1, [0], true, ⟨(some 41), .call k_ledger_Ledger_Used [(.tmp 40)], none⟩⟩,
    ⟨3, [2, 1, 0], true, ⟨(some 43), .call k_wicketref12_Ledger_Used [(.tmp 42)], none⟩⟩,
    ⟨4, [1, 3, 0, 2], false, ⟨(some 44), .bin .neq (.tmp 41) (.tmp 43), none⟩⟩,
    ⟨5, [4, 3, 1, 0, 2], false, ⟨(some 45), .move (.tmp 44), none⟩⟩,
    ⟨6, [5, 4, 3, 1, 0, 2], false, ⟨(some 46), .move (.tmp 7), some (45, false)⟩⟩,
    ⟨8, [5, 4, 3, 1, 0, 2], false, ⟨(some 48), .move (.tmp 8), some (45, false)⟩⟩,
    ⟨7, [6, 5, 4, 3, 1, 0, 2], true, ⟨(some 47), .call k_ledger_Ledger_Reserved [(.tmp 46)], some (45, false)⟩⟩,
    ⟨9, [8, 7, 5, 4, 3, 1, 0, 2, 6], true, ⟨(some 49), .call k_wicketref12_Ledger_Reserved [(.tmp 48)], some (45, false)⟩⟩,
    ⟨10, [7, 9, 5, 6, 4, 3, 1, 0, 2, 8], false, ⟨(some 50), .bin .neq (.tmp 47) (.tmp 49), some (45, false)⟩⟩,
    ⟨11, [5, 10, 4, 3, 1, 0, 2, 7, 9, 6, 8], false, ⟨(some 51), .pick (.tmp 45) (.const (.bool true)) (.tmp 50), none⟩⟩,
    ⟨12, [11, 9, 5, 10, 4, 3, 1, 0, 2, 7, 6, 8], false, ⟨(some 52), .move (.tmp 51), none⟩⟩,
    ⟨13, [12, 11, 9, 5, 10, 4, 3, 1, 0, 2, 7, 6, 8], false, ⟨(some 53), .move (.tmp 7), some (52, false)⟩⟩,
    ⟨15, [12, 11, 9, 5, 10, 4, 3, 1, 0, 2, 7, 6, 8], false, ⟨(some 55), .move (.tmp 8), some (52, false)⟩⟩,
    ⟨14, [13, 12, 11, 9, 5, 10, 4, 3, 1, 0, 2, 7, 6, 8], true, ⟨(some 54), .call k_ledger_Ledger_Marked [(.tmp 53)], some (52, false)⟩⟩,
    ⟨16, [15, 14, 12, 11, 9, 5, 10, 4, 3, 1, 0, 2, 7, 6, 8, 13], true, ⟨(some 56), .call k_wicketref12_Ledger_Marked [(.tmp 55)], some (52, false)⟩⟩,
    ⟨17, [14, 16, 12, 13, 11, 9, 5, 10, 4, 3, 1, 0, 2, 7, 6, 8, 15], false, ⟨(some 57), .eqv true .bool (.tmp 54) (.tmp 56), some (52, false)⟩⟩,
    ⟨18, [12, 17, 11, 9, 5, 10, 4, 3, 1, 0, 2, 7, 6, 8, 14, 16, 13, 15], false, ⟨(some 58), .pick (.tmp 52) (.const (.bool true)) (.tmp 57), none⟩⟩,
    ⟨19, [18, 16, 12, 17, 11, 9, 5, 10, 4, 3, 1, 0, 2, 7, 6, 8, 14, 13, 15], false, ⟨(some 59), .move (.tmp 58), none⟩⟩,
    ⟨20, [19, 18, 16, 12, 17, 11, 9, 5, 10, 4, 3, 1, 0, 2, 7, 6, 8, 14, 13, 15], false, ⟨(some 60), .move (.tmp 9), some (59, false)⟩⟩,
    ⟨21, [19, 18, 16, 12, 17, 11, 9, 5, 10, 4, 3, 1, 0, 2, 7, 6, 8, 14, 13, 15], false, ⟨(some 61), .move (.tmp 11), some (59, false)⟩⟩,
    ⟨22, [20, 21, 19, 18, 16, 12, 17, 11, 9, 5, 10, 4, 3, 1, 0, 2, 7, 6, 8, 14, 13, 15], false, ⟨(some 62), .bin .neq (.tmp 60) (.tmp 61), some (59, false)⟩⟩,
    ⟨23, [19, 22, 18, 16, 12, 17, 11, 9, 5, 10, 4, 3, 1, 0, 2, 7, 6, 8, 14, 13, 15, 20, 21], false, ⟨(some 63), .pick (.tmp 59) (.const (.bool true)) (.tmp 62), none⟩⟩,
    ⟨24, [23, 19, 22, 18, 16, 12, 17, 11, 9, 5, 10, 4, 3, 1, 0, 2, 7, 6, 8, 14, 13, 15, 20, 21], false, ⟨(some 64), .move (.tmp 63), none⟩⟩,
    ⟨25, [24, 23, 19, 22, 18, 16, 12, 17, 11, 9, 5, 10, 4, 3, 1, 0, 2, 7, 6, 8, 14, 13, 15, 20, 21], false, ⟨(some 65), .move (.tmp 10), some (64, false)⟩⟩,
    ⟨26, [24, 23, 19, 22, 18, 16, 12, 17, 11, 9, 5, 10, 4, 3, 1, 0, 2, 7, 6, 8, 14, 13, 15, 20, 21], false, ⟨(some 66), .move (.tmp 12), some (64, false)⟩⟩,
    ⟨27, [25, 26, 24, 23, 19, 22, 18, 16, 12, 17, 11, 9, 5, 10, 4, 3, 1, 0, 2, 7, 6, 8, 14, 13, 15, 20, 21], false, ⟨(some 67), .eqv true .bool (.tmp 65) (.tmp 66), some (64, false)⟩⟩,
    ⟨28, [24, 27, 23, 19, 22, 18, 16, 12, 17, 11, 9, 5, 10, 4, 3, 1, 0, 2, 7, 6, 8, 14, 13, 15, 20, 21, 25, 26], false, ⟨(some 68), .pick (.tmp 64) (.const (.bool true)) (.tmp 67), none⟩⟩,
    ⟨29, [28, 24, 27, 23, 19, 22, 18, 16, 12, 17, 11, 9, 5, 10, 4, 3, 1, 0, 2, 7, 6, 8, 14, 13, 15, 20, 21, 25, 26], false, ⟨(some 69), .move (.tmp 68), none⟩⟩,
    ⟨30, [29, 28, 24, 27, 23, 19, 22, 18, 16, 12, 17, 11, 9, 5, 10, 4, 3, 1, 0, 2, 7, 6, 8, 14, 13, 15, 20, 21, 25, 26], false, ⟨(some 70), .move (.tmp 7), some (69, false)⟩⟩,
    ⟨31, [29, 28, 24, 27, 23, 19, 22, 18, 16, 12, 17, 11, 9, 5, 10, 4, 3, 1, 0, 2, 7, 6, 8, 14, 13, 15, 20, 21, 25, 26], false, ⟨(some 71), .fieldAddr 3 (.tmp 5), some (69, false)⟩⟩,
    ⟨32, [31, 29, 28, 24, 27, 23, 19, 22, 18, 16, 12, 17, 11, 9, 5, 10, 4, 3, 1, 0, 2, 7, 6, 8, 14, 13, 15, 20, 21, 25, 26], false, ⟨(some 72), .load false 1 (.tmp 71), some (69, false)⟩⟩,
    ⟨34, [29, 28, 24, 27, 23, 19, 22, 18, 16, 12, 17, 11, 9, 5, 10, 4, 3, 1, 0, 2, 7, 6, 8, 14, 13, 15, 20, 21, 25, 26], false, ⟨(some 74), .move (.tmp 8), some (69, false)⟩⟩,
    ⟨35, [29, 28, 24, 27, 23, 19, 22, 18, 16, 12, 17, 11, 9, 5, 10, 4, 3, 1, 0, 2, 7, 6, 8, 14, 13, 15, 20, 21, 25, 26], false, ⟨(some 75), .fieldAddr 3 (.tmp 5), some (69, false)⟩⟩,
    ⟨36, [35, 29, 28, 24, 27, 23, 19, 22, 18, 16, 12, 17, 11, 9, 5, 10, 4, 3, 1, 0, 2, 7, 6, 8, 14, 13, 15, 20, 21, 25, 26], false, ⟨(some 76), .load false 1 (.tmp 75), some (69, false)⟩⟩,
    ⟨33, [30, 32, 29, 28, 24, 27, 23, 19, 22, 18, 16, 12, 17, 11, 9, 5, 10, 4, 3, 1, 0, 2, 7, 6, 8, 14, 13, 15, 20, 21, 25, 26, 31], true, ⟨(some 73), .call k_ledger_Ledger_Fits [(.tmp 70), (.tmp 72)], some (69, false)⟩⟩,
    ⟨37, [34, 36, 33, 29, 28, 24, 27, 23, 19, 22, 18, 16, 12, 17, 11, 9, 5, 10, 4, 3, 1, 0, 2, 7, 6, 8, 14, 13, 15, 20, 21, 25, 26, 35, 30, 32, 31], true, ⟨(some 77), .call k_wicketref12_Ledger_Fits [(.tmp 74), (.tmp 76)], some (69, false)⟩⟩,
    ⟨38, [33, 37, 29, 30, 32, 28, 24, 27, 23, 19, 22, 18, 16, 12, 17, 11, 9, 5, 10, 4, 3, 1, 0, 2, 7, 6, 8, 14, 13, 15, 20, 21, 25, 26, 31, 34, 36, 35], false, ⟨(some 78), .eqv true .bool (.tmp 73) (.tmp 77), some (69, false)⟩⟩,
    ⟨39, [29, 38, 28, 24, 27, 23, 19, 22, 18, 16, 12, 17, 11, 9, 5, 10, 4, 3, 1, 0, 2, 7, 6, 8, 14, 13, 15, 20, 21, 25, 26, 33, 37, 30, 32, 31, 34, 36, 35], false, ⟨(some 79), .pick (.tmp 69) (.const (.bool true)) (.tmp 78), none⟩⟩,
    ⟨40, [39, 37, 29, 38, 28, 24, 27, 23, 19, 22, 18, 16, 12, 17, 11, 9, 5, 10, 4, 3, 1, 0, 2, 7, 6, 8, 14, 13, 15, 20, 21, 25, 26, 33, 30, 32, 31, 34, 36, 35], false, ⟨(some 80), .move (.tmp 79), none⟩⟩,
    ⟨41, [40, 39, 37, 29, 38, 28, 24, 27, 23, 19, 22, 18, 16, 12, 17, 11, 9, 5, 10, 4, 3, 1, 0, 2, 7, 6, 8, 14, 13, 15, 20, 21, 25, 26, 33, 30, 32, 31, 34, 36, 35], false, ⟨(some 81), .move (.tmp 7), some (80, false)⟩⟩,
    ⟨43, [40, 39, 37, 29, 38, 28, 24, 27, 23, 19, 22, 18, 16, 12, 17, 11, 9, 5, 10, 4, 3, 1, 0, 2, 7, 6, 8, 14, 13, 15, 20, 21, 25, 26, 33, 30, 32, 31, 34, 36, 35], false, ⟨(some 83), .move (.tmp 8), some (80, false)⟩⟩,
    ⟨42, [41, 40, 39, 37, 29, 38, 28, 24, 27, 23, 19, 22, 18, 16, 12, 17, 11, 9, 5, 10, 4, 3, 1, 0, 2, 7, 6, 8, 14, 13, 15, 20, 21, 25, 26, 33, 30, 32, 31, 34, 36, 35], true, ⟨(some 82), .call k_ledger_Ledger_Fits [(.tmp 81), (.const (.int .i64 1))], some (80, false)⟩⟩,
    ⟨44, [43, 42, 40, 39, 37, 29, 38, 28, 24, 27, 23, 19, 22, 18, 16, 12, 17, 11, 9, 5, 10, 4, 3, 1, 0, 2, 7, 6, 8, 14, 13, 15, 20, 21, 25, 26, 33, 30, 32, 31, 34, 36, 35, 41], true, ⟨(some 84), .call k_wicketref12_Ledger_Fits [(.tmp 83), (.const (.int .i64 1))], some (80, false)⟩⟩,
    ⟨45, [42, 44, 40, 41, 39, 37, 29, 38, 28, 24, 27, 23, 19, 22, 18, 16, 12, 17, 11, 9, 5, 10, 4, 3, 1, 0, 2, 7, 6, 8, 14, 13, 15, 20, 21, 25, 26, 33, 30, 32, 31, 34, 36, 35, 43], false, ⟨(some 85), .eqv true .bool (.tmp 82) (.tmp 84), some (80, false)⟩⟩,
    ⟨46, [40, 45, 39, 37, 29, 38, 28, 24, 27, 23, 19, 22, 18, 16, 12, 17, 11, 9, 5, 10, 4, 3, 1, 0, 2, 7, 6, 8, 14, 13, 15, 20, 21, 25, 26, 33, 30, 32, 31, 34, 36, 35, 42, 44, 41, 43], false, ⟨(some 86), .pick (.tmp 80) (.const (.bool true)) (.tmp 85), none⟩⟩]
def c_wicketlaw12_pair_same_S5 : AC :=
  .reg [⟨(some 6), .move (.const (.bool false)), none⟩]
def c_wicketlaw12_pair_same_S6 : AC :=
  .seq c_wicketlaw12_pair_same_S4 <|
  .cond (.tmp 86)
    (.seq c_wicketlaw12_pair_same_S5 <|
    .ret)
    (.skip)
def c_wicketlaw12_pair_same_S7 : AC :=
  .reg [⟨(some 13), .move (.const (.int .u64 0)), none⟩]
def c_wicketlaw12_pair_same_S8 : AC :=
  .reg [⟨(some 87), .move (.tmp 13), none⟩,
    ⟨(some 88), .bin .lss (.tmp 87) (.const (.int .u64 6)), none⟩]
def c_wicketlaw12_pair_same_S9 : AC :=
  .seq c_wicketlaw12_pair_same_S8 <|
  .cond (.tmp 88)
    (.skip)
    (.exit 0)
def c_wicketlaw12_pair_same_S10 : AC :=
  .reg [⟨(some 92), .move (.tmp 7), none⟩,
    ⟨(some 93), .move (.tmp 13), none⟩,
    ⟨(some 94), .call k_ledger_Ledger_Left [(.tmp 92), (.tmp 93)], none⟩,
    ⟨(some 91), .move (.tmp 94), none⟩,
    ⟨(some 95), .extract (.tmp 91) 0, none⟩,
    ⟨(some 96), .extract (.tmp 91) 1, none⟩,
    ⟨(some 9), .move (.tmp 95), none⟩,
    ⟨(some 10), .move (.tmp 96), none⟩]
def c_wicketlaw12_pair_same_S11 : AC :=
  .reg [⟨(some 98), .move (.tmp 8), none⟩,
    ⟨(some 99), .move (.tmp 13), none⟩,
    ⟨(some 100), .call k_wicketref12_Ledger_Left [(.tmp 98), (.tmp 99)], none⟩,
    ⟨(some 97), .move (.tmp 100), none⟩,
    ⟨(some 101), .extract (.tmp 97) 0, none⟩,
    ⟨(some 102), .extract (.tmp 97) 1, none⟩,
    ⟨(some 11), .move (.tmp 101), none⟩,
    ⟨(some 12), .move (.tmp 102), none⟩]
def c_wicketlaw12_pair_same_S12 : AC :=
  .reg [⟨(some 103), .move (.tmp 9), none⟩,
    ⟨(some 104), .move (.tmp 11), none⟩,
    ⟨(some 105), .bin .neq (.tmp 103) (.tmp 104), none⟩,
    ⟨(some 106), .move (.tmp 105), none⟩,
    ⟨(some 107), .move (.tmp 10), some (106, false)⟩,
    ⟨(some 108), .move (.tmp 12), some (106, false)⟩,
    ⟨(some 109), .eqv true .bool (.tmp 107) (.tmp 108), some (106, false)⟩,
    ⟨(some 110), .pick (.tmp 106) (.const (.bool true)) (.tmp 109), none⟩]
def c_wicketlaw12_pair_same_S13 : AC :=
  .reg [⟨(some 6), .move (.const (.bool false)), none⟩]
def c_wicketlaw12_pair_same_S14 : AC :=
  .block 1 <|
    .seq c_wicketlaw12_pair_same_S10 <|
    .seq c_wicketlaw12_pair_same_S11 <|
    .seq c_wicketlaw12_pair_same_S12 <|
    .cond (.tmp 110)
      (.seq c_wicketlaw12_pair_same_S13 <|
      .ret)
      (.skip)
def c_wicketlaw12_pair_same_L15 : AC :=
  .seq c_wicketlaw12_pair_same_S9 <|
  .seq c_wicketlaw12_pair_same_S14 <|
  .reg [⟨(some 89), .move (.tmp 13), none⟩,
    ⟨(some 90), .bin .add (.tmp 89) (.const (.int .u64 1)), none⟩,
    ⟨(some 13), .move (.tmp 90), none⟩]
def c_wicketlaw12_pair_same_S16 : AC :=
  .seq c_wicketlaw12_pair_same_S7 <|
  .block 0 <|
    .loop c_wicketlaw12_pair_same_L15
def c_wicketlaw12_pair_same_S17 : AC :=
  .regd [⟨0, [], false, ⟨(some 111), .move (.tmp 7), none⟩⟩,
    ⟨2, [], false, ⟨(some 113), .move (.tmp 7), none⟩⟩,
    ⟨5, [], false, ⟨(some 116), .move (.tmp 8), none⟩⟩,
    ⟨6, [5], false, ⟨(some 117), .nilCheck (.tmp 116), none⟩⟩,
    ⟨7, [6, 5], false, ⟨(some 118), .fieldAddr 0 (.tmp 117), none⟩⟩,
    ⟨8, [7, 6, 5], false, ⟨(some 119), .load false 1 (.tmp 118), none⟩⟩,
    ⟨1, [0], true, ⟨(some 112), .call k_ledger_Ledger_Used [(.tmp 111)], none⟩⟩,
    ⟨3, [2, 1, 0], true, ⟨(some 114), .call k_ledger_Ledger_Reserved [(.tmp 113)], none⟩⟩,
    ⟨4, [1, 3, 0, 2], false, ⟨(some 115), .bin .add (.tmp 112) (.tmp 114), none⟩⟩,
    ⟨9, [4, 8, 1, 3, 0, 2, 7, 6, 5], false, ⟨(some 120), .bin .leq (.tmp 115) (.tmp 119), none⟩⟩,
    ⟨10, [9, 3, 0, 1, 2, 4, 5, 6, 7, 8], false, ⟨(some 6), .move (.tmp 120), none⟩⟩]
def c_wicketlaw12_pair_same : AFun := ⟨[.tmp 6],
  .seq c_wicketlaw12_pair_same_S0 <|
  .seq c_wicketlaw12_pair_same_S1 <|
  .seq c_wicketlaw12_pair_same_S2 <|
  .seq c_wicketlaw12_pair_same_S3 <|
  .seq c_wicketlaw12_pair_same_S6 <|
  .seq c_wicketlaw12_pair_same_S16 <|
  .seq c_wicketlaw12_pair_same_S17 <|
  .ret, none⟩
-- f9: (*wicket/ledger.Ledger).Fits
def c_ledger_Ledger_Fits : AFun := ⟨[.tmp 4],
  .seq (.reg [⟨(some 4), .move (.const (.bool false)), none⟩]) <|
  .seq (.regd [⟨0, [], false, ⟨(some 5), .move (.tmp 0), none⟩⟩,
      ⟨1, [0], false, ⟨(some 6), .eqv true .ptr (.tmp 5) (.const (.pointer none)), none⟩⟩,
      ⟨2, [1, 0], false, ⟨(some 7), .move (.tmp 6), none⟩⟩,
      ⟨3, [2, 1, 0], false, ⟨(some 8), .move (.tmp 1), some (7, true)⟩⟩,
      ⟨4, [3, 2, 1, 0], false, ⟨(some 9), .bin .geq (.tmp 8) (.const (.int .i64 1)), some (7, true)⟩⟩,
      ⟨5, [2, 4, 1, 0, 3], false, ⟨(some 10), .pick (.tmp 7) (.tmp 9) (.const (.bool false)), none⟩⟩,
      ⟨6, [5, 2, 4, 1, 0, 3], false, ⟨(some 11), .move (.tmp 10), none⟩⟩,
      ⟨7, [6, 5, 2, 4, 1, 0, 3], false, ⟨(some 12), .move (.tmp 1), some (11, true)⟩⟩,
      ⟨8, [6, 5, 2, 4, 1, 0, 3], false, ⟨(some 13), .move (.tmp 0), some (11, true)⟩⟩,
      ⟨9, [8, 6, 5, 2, 4, 1, 0, 3], false, ⟨(some 14), .nilCheck (.tmp 13), some (11, true)⟩⟩,
      ⟨10, [9, 6, 8, 5, 2, 4, 1, 0, 3], false, ⟨(some 15), .fieldAddr 0 (.tmp 14), some (11, true)⟩⟩,
      ⟨11, [10, 6, 9, 8, 5, 2, 4, 1, 0, 3], false, ⟨(some 16), .load false 1 (.tmp 15), some (11, true)⟩⟩,
      ⟨12, [6, 5, 2, 4, 1, 0, 3], false, ⟨(some 17), .move (.tmp 0), some (11, true)⟩⟩,
      ⟨13, [12, 6, 5, 2, 4, 1, 0, 3], false, ⟨(some 18), .nilCheck (.tmp 17), some (11, true)⟩⟩,
      ⟨14, [13, 6, 12, 5, 2, 4, 1, 0, 3], false, ⟨(some 19), .fieldAddr 2 (.tmp 18), some (11, true)⟩⟩,
      ⟨15, [14, 6, 13, 12, 5, 2, 4, 1, 0, 3], false, ⟨(some 20), .load false 1 (.tmp 19), some (11, true)⟩⟩,
      ⟨16, [11, 15, 6, 10, 9, 8, 5, 2, 4, 1, 0, 3, 14, 13, 12], false, ⟨(some 21), .bin .sub (.tmp 16) (.tmp 20), some (11, true)⟩⟩,
      ⟨17, [6, 5, 2, 4, 1, 0, 3], false, ⟨(some 22), .move (.tmp 0), some (11, true)⟩⟩,
      ⟨18, [17, 6, 5, 2, 4, 1, 0, 3], false, ⟨(some 23), .nilCheck (.tmp 22), some (11, true)⟩⟩,
      ⟨19, [18, 6, 17, 5, 2, 4, 1, 0, 3], false, ⟨(some 24), .fieldAddr 3 (.tmp 23), some (11, true)⟩⟩,
      ⟨20, [19, 6, 18, 17, 5, 2, 4, 1, 0, 3], false, ⟨(some 25), .load false 1 (.tmp 24), some (11, true)⟩⟩,
      ⟨21, [16, 20, 6, 11, 15, 10, 9, 8, 5, 2, 4, 1, 0, 3, 14, 13, 12, 19, 18, 17], false, ⟨(some 26), .bin .sub (.tmp 21) (.tmp 25), some (11, true)⟩⟩,
      ⟨22, [7, 21, 6, 5, 2, 4, 1, 0, 3, 16, 20, 11, 15, 10, 9, 8, 14, 13, 12, 19, 18, 17], false, ⟨(some 27), .bin .leq (.tmp 12) (.tmp 26), some (11, true)⟩⟩,
      ⟨23, [6, 22, 5, 2, 4, 1, 0, 3, 7, 21, 16, 20, 11, 15, 10, 9, 8, 14, 13, 12, 19, 18, 17], false, ⟨(some 28), .pick (.tmp 11) (.tmp 27) (.const (.bool false)), none⟩⟩,
      ⟨24, [23, 6, 0, 1, 2, 3, 4, 5, 7, 8, 9, 10, 11, 12, 13, 14, 15, 16, 17, 18, 19, 20, 21, 22], false, ⟨(some 4), .move (.tmp 28), none⟩⟩]) <|
  .ret, none⟩
-- f10: (*wicket/ledger.Ledger).Reserve
def c_ledger_Ledger_Reserve : AFun := ⟨[.tmp 6],
  .seq (.reg [⟨(some 6), .move (.const (.int .i64 0)), none⟩]) <|
  .seq (.block 0 <|
      .seq (.reg [⟨(some 8), .move (.tmp 0), none⟩,
          ⟨(some 9), .eqv false .ptr (.tmp 8) (.const (.pointer none)), none⟩,
          ⟨(some 7), .move (.tmp 9), none⟩]) <|
      .cond (.tmp 7)
        (.seq (.reg [⟨(some 6), .move (.const (.int .i64 1)), none⟩]) <|
        .ret)
        (.seq (.reg [⟨(some 11), .move (.tmp 1), none⟩,
            ⟨(some 12), .bin .eql (.tmp 11) (.const (.int .u64 0)), none⟩,
            ⟨(some 13), .move (.tmp 12), none⟩,
            ⟨(some 14), .move (.tmp 2), some (13, false)⟩,
            ⟨(some 15), .bin .lss (.tmp 14) (.const (.int .i64 1)), some (13, false)⟩,
            ⟨(some 16), .pick (.tmp 13) (.const (.bool true)) (.tmp 15), none⟩,
            ⟨(some 10), .move (.tmp 16), none⟩]) <|
        .cond (.tmp 10)
          (.seq (.reg [⟨(some 6), .move (.const (.int .i64 2)), none⟩]) <|
          .ret)
          (.seq (.reg [⟨(some 18), .move (.tmp 0), none⟩,
              ⟨(some 19), .move (.tmp 1), none⟩,
              ⟨(some 20), .call k_ledger_Ledger_has [(.tmp 18), (.tmp 19)], none⟩,
              ⟨(some 17), .move (.tmp 20), none⟩]) <|
          .cond (.tmp 17)
            (.seq (.reg [⟨(some 6), .move (.const (.int .i64 110)), none⟩]) <|
            .ret)
            (.seq (.reg [⟨(some 22), .move (.tmp 0), none⟩,
                ⟨(some 23), .move (.tmp 2), none⟩,
                ⟨(some 24), .call k_ledger_Ledger_Fits [(.tmp 22), (.tmp 23)], none⟩,
                ⟨(some 25), .un .not (.tmp 24), none⟩,
                ⟨(some 21), .move (.tmp 25), none⟩]) <|
            .cond (.tmp 21)
              (.seq (.reg [⟨(some 6), .move (.const (.int .i64 120)), none⟩]) <|
              .ret)
              (.skip))))) <|
  .seq (.reg [⟨(some 26), .move (.tmp 0), none⟩,
      ⟨(some 27), .nilCheck (.tmp 26), none⟩,
      ⟨(some 28), .fieldAddr 4 (.tmp 27), none⟩,
      ⟨(some 29), .load false 1 (.tmp 28), none⟩,
      ⟨(some 30), .move (.tmp 1), none⟩,
      ⟨(some 31), .move (.tmp 2), none⟩,
      ⟨none, .mapUpdate .u64 (.tmp 29) (.tmp 30) (.tmp 31), none⟩]) <|
  .seq (.reg [⟨(some 32), .move (.tmp 0), none⟩,
      ⟨(some 33), .nilCheck (.tmp 32), none⟩,
      ⟨(some 34), .fieldAddr 3 (.tmp 33), none⟩,
      ⟨(some 35), .load false 1 (.tmp 34), none⟩,
      ⟨(some 36), .move (.tmp 2), none⟩,
      ⟨(some 37), .bin .add (.tmp 35) (.tmp 36), none⟩,
      ⟨(some 38), .nilCheck (.tmp 32), none⟩,
      ⟨(some 39), .fieldAddr 3 (.tmp 38), none⟩,
      ⟨none, .store 1 (.tmp 39) (.tmp 37), none⟩]) <|
  .seq (.reg [⟨(some 6), .move (.const (.int .i64 0)), none⟩]) <|
  .ret, none⟩
-- f11: (*wicket/ledger.Ledger).Append
def c_ledger_Ledger_Append : AFun := ⟨[.tmp 4],
  .seq (.reg [⟨(some 4), .move (.const (.int .i64 0)), none⟩]) <|
  .seq (.block 0 <|
      .seq (.reg [⟨(some 6), .move (.tmp 0), none⟩,
          ⟨(some 7), .eqv false .ptr (.tmp 6) (.const (.pointer none)), none⟩,
          ⟨(some 5), .move (.tmp 7), none⟩]) <|
      .cond (.tmp 5)
        (.seq (.reg [⟨(some 4), .move (.const (.int .i64 1)), none⟩]) <|
        .ret)
        (.seq (.reg [⟨(some 9), .move (.tmp 0), none⟩,
            ⟨(some 10), .move (.tmp 1), none⟩,
            ⟨(some 11), .call k_ledger_Ledger_has [(.tmp 9), (.tmp 10)], none⟩,
            ⟨(some 12), .un .not (.tmp 11), none⟩,
            ⟨(some 8), .move (.tmp 12), none⟩]) <|
        .cond (.tmp 8)
          (.seq (.reg [⟨(some 4), .move (.const (.int .i64 110)), none⟩]) <|
          .ret)
          (.seq (.reg [⟨(some 14), .move (.tmp 0), none⟩,
              ⟨(some 15), .nilCheck (.tmp 14), none⟩,
              ⟨(some 16), .fieldAddr 4 (.tmp 15), none⟩,
              ⟨(some 17), .load false 1 (.tmp 16), none⟩,
              ⟨(some 18), .move (.tmp 1), none⟩,
              ⟨(some 19), .lookup .u64 (.int .i64 0) (.tmp 17) (.tmp 18) false, none⟩,
              ⟨(some 20), .bin .eql (.tmp 19) (.const (.int .i64 0)), none⟩,
              ⟨(some 13), .move (.tmp 20), none⟩]) <|
          .cond (.tmp 13)
            (.seq (.reg [⟨(some 4), .move (.const (.int .i64 120)), none⟩]) <|
            .ret)
            (.skip)))) <|
  .seq (.reg [⟨(some 21), .move (.tmp 0), none⟩,
      ⟨(some 22), .nilCheck (.tmp 21), none⟩,
      ⟨(some 23), .fieldAddr 4 (.tmp 22), none⟩,
      ⟨(some 24), .load false 1 (.tmp 23), none⟩,
      ⟨(some 25), .move (.tmp 1), none⟩,
      ⟨(some 26), .lookup .u64 (.int .i64 0) (.tmp 24) (.tmp 25) false, none⟩,
      ⟨(some 27), .bin .sub (.tmp 26) (.const (.int .i64 1)), none⟩,
      ⟨none, .mapUpdate .u64 (.tmp 24) (.tmp 25) (.tmp 27), none⟩]) <|
  .seq (.reg [⟨(some 28), .move (.tmp 0), none⟩,
      ⟨(some 29), .nilCheck (.tmp 28), none⟩,
      ⟨(some 30), .fieldAddr 3 (.tmp 29), none⟩,
      ⟨(some 31), .load false 1 (.tmp 30), none⟩,
      ⟨(some 32), .bin .sub (.tmp 31) (.const (.int .i64 1)), none⟩,
      ⟨(some 33), .nilCheck (.tmp 28), none⟩,
      ⟨(some 34), .fieldAddr 3 (.tmp 33), none⟩,
      ⟨none, .store 1 (.tmp 34) (.tmp 32), none⟩]) <|
  .seq (.reg [⟨(some 35), .move (.tmp 0), none⟩,
      ⟨(some 36), .nilCheck (.tmp 35), none⟩,
      ⟨(some 37), .fieldAddr 2 (.tmp 36), none⟩,
      ⟨(some 38), .load false 1 (.tmp 37), none⟩,
      ⟨(some 39), .bin .add (.tmp 38) (.const (.int .i64 1)), none⟩,
      ⟨(some 40), .nilCheck (.tmp 35), none⟩,
      ⟨(some 41), .fieldAddr 2 (.tmp 40), none⟩,
      ⟨none, .store 1 (.tmp 41) (.tmp 39), none⟩]) <|
  .seq (.reg [⟨(some 4), .move (.const (.int .i64 0)), none⟩]) <|
  .ret, none⟩
-- f12: (*wicket/ledger.Ledger).Left
def c_ledger_Ledger_Left : AFun := ⟨[.tmp 4, .tmp 5],
  .seq (.reg [⟨(some 4), .move (.const (.int .i64 0)), none⟩,
      ⟨(some 5), .move (.const (.bool false)), none⟩]) <|
  .seq (.seq (.reg [⟨(some 6), .move (.tmp 0), none⟩,
        ⟨(some 7), .eqv false .ptr (.tmp 6) (.const (.pointer none)), none⟩]) <|
    .cond (.tmp 7)
      (.seq (.reg [⟨(some 4), .move (.const (.int .i64 0)), none⟩,
          ⟨(some 5), .move (.const (.bool false)), none⟩]) <|
      .ret)
      (.skip)) <|
  .seq (.reg [⟨(some 9), .move (.tmp 0), none⟩,
      ⟨(some 10), .nilCheck (.tmp 9), none⟩,
      ⟨(some 11), .fieldAddr 4 (.tmp 10), none⟩,
      ⟨(some 12), .load false 1 (.tmp 11), none⟩,
      ⟨(some 13), .move (.tmp 1), none⟩,
      ⟨(some 14), .lookup .u64 (.int .i64 0) (.tmp 12) (.tmp 13) true, none⟩,
      ⟨(some 8), .move (.tmp 14), none⟩,
      ⟨(some 15), .extract (.tmp 8) 0, none⟩,
      ⟨(some 16), .extract (.tmp 8) 1, none⟩,
      ⟨(some 4), .move (.tmp 15), none⟩,
      ⟨(some 5), .move (.tmp 16), none⟩]) <|
  .seq (.reg [⟨(some 17), .move (.tmp 4), none⟩,
      ⟨(some 18), .move (.tmp 5), none⟩,
      ⟨(some 4), .move (.tmp 17), none⟩,
      ⟨(some 5), .move (.tmp 18), none⟩]) <|
  .ret, none⟩
-- f13: (*wicket/ledger.Ledger).Used
def c_ledger_Ledger_Used : AFun := ⟨[.tmp 2],
  .seq (.reg [⟨(some 2), .move (.const (.int .i64 0)), none⟩]) <|
  .seq (.seq (.reg [⟨(some 3), .move (.tmp 0), none⟩,
        ⟨(some 4), .eqv false .ptr (.tmp 3) (.const (.pointer none)), none⟩]) <|
    .cond (.tmp 4)
      (.seq (.reg [⟨(some 2), .move (.const (.int .i64 0)), none⟩]) <|
      .ret)
      (.skip)) <|
  .seq (.reg [⟨(some 5), .move (.tmp 0), none⟩,
      ⟨(some 6), .nilCheck (.tmp 5), none⟩,
      ⟨(some 7), .fieldAddr 2 (.tmp 6), none⟩,
      ⟨(some 8), .load false 1 (.tmp 7), none⟩,
      ⟨(some 2), .move (.tmp 8), none⟩]) <|
  .ret, none⟩
-- f14: (*wicket/ledger.Ledger).Reserved
def c_ledger_Ledger_Reserved : AFun := ⟨[.tmp 2],
  .seq (.reg [⟨(some 2), .move (.const (.int .i64 0)), none⟩]) <|
  .seq (.seq (.reg [⟨(some 3), .move (.tmp 0), none⟩,
        ⟨(some 4), .eqv false .ptr (.tmp 3) (.const (.pointer none)), none⟩]) <|
    .cond (.tmp 4)
      (.seq (.reg [⟨(some 2), .move (.const (.int .i64 0)), none⟩]) <|
      .ret)
      (.skip)) <|
  .seq (.reg [⟨(some 5), .move (.tmp 0), none⟩,
      ⟨(some 6), .nilCheck (.tmp 5), none⟩,
      ⟨(some 7), .fieldAddr 3 (.tmp 6), none⟩,
      ⟨(some 8), .load false 1 (.tmp 7), none⟩,
      ⟨(some 2), .move (.tmp 8), none⟩]) <|
  .ret, none⟩
-- f15: (*wicket/ledger.Ledger).Marked
def c_ledger_Ledger_Marked : AFun := ⟨[.tmp 2],
  .seq (.reg [⟨(some 2), .move (.const (.bool false)), none⟩]) <|
  .seq (.regd [⟨0, [], false, ⟨(some 3), .move (.tmp 0), none⟩⟩,
      ⟨1, [0], false, ⟨(some 4), .eqv true .ptr (.tmp 3) (.const (.pointer none)), none⟩⟩,
      ⟨2, [1, 0], false, ⟨(some 5), .move (.tmp 4), none⟩⟩,
      ⟨3, [2, 1, 0], false, ⟨(some 6), .move (.tmp 0), some (5, true)⟩⟩,
      ⟨4, [3, 2, 1, 0], false, ⟨(some 7), .nilCheck (.tmp 6), some (5, true)⟩⟩,
      ⟨5, [4, 2, 3, 1, 0], false, ⟨(some 8), .fieldAddr 2 (.tmp 7), some (5, true)⟩⟩,
      ⟨6, [5, 2, 4, 3, 1, 0], false, ⟨(some 9), .load false 1 (.tmp 8), some (5, true)⟩⟩,
      ⟨7, [2, 1, 0], false, ⟨(some 10), .move (.tmp 0), some (5, true)⟩⟩,
      ⟨8, [7, 2, 1, 0], false, ⟨(some 11), .nilCheck (.tmp 10), some (5, true)⟩⟩,
      ⟨9, [8, 2, 7, 1, 0], false, ⟨(some 12), .fieldAddr 1 (.tmp 11), some (5, true)⟩⟩,
      ⟨10, [9, 2, 8, 7, 1, 0], false, ⟨(some 13), .load false 1 (.tmp 12), some (5, true)⟩⟩,
      ⟨11, [6, 10, 2, 5, 4, 3, 1, 0, 9, 8, 7], false, ⟨(some 14), .bin .geq (.tmp 9) (.tmp 13), some (5, true)⟩⟩,
      ⟨12, [2, 11, 1, 0, 6, 10, 5, 4, 3, 9, 8, 7], false, ⟨(some 15), .pick (.tmp 5) (.tmp 14) (.const (.bool false)), none⟩⟩,
      ⟨13, [12, 2, 0, 1, 3, 4, 5, 6, 7, 8, 9, 10, 11], false, ⟨(some 2), .move (.tmp 15), none⟩⟩]) <|
  .ret, none⟩
-- f16: (*wicket/wicketref12.Ledger).Reserve
def c_wicketref12_Ledger_Reserve : AFun := ⟨[.tmp 6],
  .seq (.reg [⟨(some 6), .move (.const (.int .i64 0)), none⟩]) <|
  .seq (.block 0 <|
      .seq (.reg [⟨(some 8), .move (.tmp 1), none⟩,
          ⟨(some 9), .bin .eql (.tmp 8) (.const (.int .u64 0)), none⟩,
          ⟨(some 10), .move (.tmp 9), none⟩,
          ⟨(some 11), .move (.tmp 2), some (10, false)⟩,
          ⟨(some 12), .bin .lss (.tmp 11) (.const (.int .i64 1)), some (10, false)⟩,
          ⟨(some 13), .pick (.tmp 10) (.const (.bool true)) (.tmp 12), none⟩,
          ⟨(some 7), .move (.tmp 13), none⟩]) <|
      .cond (.tmp 7)
        (.seq (.reg [⟨(some 6), .move (.const (.int .i64 2)), none⟩]) <|
        .ret)
        (.seq (.reg [⟨(some 15), .move (.tmp 0), none⟩,
            ⟨(some 16), .move (.tmp 1), none⟩,
            ⟨(some 17), .call k_wicketref12_Ledger_at [(.tmp 15), (.tmp 16)], none⟩,
            ⟨(some 18), .bin .geq (.tmp 17) (.const (.int .i64 0)), none⟩,
            ⟨(some 14), .move (.tmp 18), none⟩]) <|
        .cond (.tmp 14)
          (.seq (.reg [⟨(some 6), .move (.const (.int .i64 110)), none⟩]) <|
          .ret)
          (.seq (.reg [⟨(some 20), .move (.tmp 0), none⟩,
              ⟨(some 21), .move (.tmp 2), none⟩,
              ⟨(some 22), .call k_wicketref12_Ledger_Fits [(.tmp 20), (.tmp 21)], none⟩,
              ⟨(some 23), .un .not (.tmp 22), none⟩,
              ⟨(some 19), .move (.tmp 23), none⟩]) <|
          .cond (.tmp 19)
            (.seq (.reg [⟨(some 6), .move (.const (.int .i64 120)), none⟩]) <|
            .ret)
            (.skip)))) <|
  .seq (.reg [⟨(some 24), .move (.tmp 0), none⟩,
      ⟨(some 25), .move (.tmp 0), none⟩,
      ⟨(some 26), .nilCheck (.tmp 25), none⟩,
      ⟨(some 27), .fieldAddr 4 (.tmp 26), none⟩,
      ⟨(some 28), .load false 1 (.tmp 27), none⟩,
      ⟨(some 29), .move (.tmp 1), none⟩,
      ⟨(some 30), .move (.tmp 2), none⟩,
      ⟨(some 31), .build [(.int .u64 0), (.int .i64 0), (.int .i64 0)] [(0, 1, (.tmp 29)), (1, 1, (.tmp 30))], none⟩,
      ⟨(some 32), .buildSlice 1 3 [(.int .u64 0), (.int .i64 0), (.int .i64 0)] [(0, 3, (.tmp 31))], none⟩,
      ⟨(some 33), .append 24 3 (.tmp 28) (.tmp 32), none⟩,
      ⟨(some 34), .nilCheck (.tmp 24), none⟩,
      ⟨(some 35), .fieldAddr 4 (.tmp 34), none⟩,
      ⟨none, .store 1 (.tmp 35) (.tmp 33), none⟩]) <|
  .seq (.reg [⟨(some 6), .move (.const (.int .i64 0)), none⟩]) <|
  .ret, none⟩
-- f17: (*wicket/wicketref12.Ledger).Append
def c_wicketref12_Ledger_Append : AFun := ⟨[.tmp 4],
  .seq (.reg [⟨(some 4), .move (.const (.int .i64 0)), none⟩]) <|
  .seq (.reg [⟨(some 6), .move (.tmp 0), none⟩,
      ⟨(some 7), .move (.tmp 1), none⟩,
      ⟨(some 8), .call k_wicketref12_Ledger_at [(.tmp 6), (.tmp 7)], none⟩,
      ⟨(some 5), .move (.tmp 8), none⟩]) <|
  .seq (.seq (.reg [⟨(some 9), .move (.tmp 5), none⟩,
        ⟨(some 10), .bin .lss (.tmp 9) (.const (.int .i64 0)), none⟩]) <|
    .cond (.tmp 10)
      (.seq (.reg [⟨(some 4), .move (.const (.int .i64 110)), none⟩]) <|
      .ret)
      (.skip)) <|
  .seq (.seq (.regd [⟨0, [], false, ⟨(some 11), .move (.tmp 0), none⟩⟩,
        ⟨1, [0], false, ⟨(some 12), .nilCheck (.tmp 11), none⟩⟩,
        ⟨2, [1, 0], false, ⟨(some 13), .fieldAddr 4 (.tmp 12), none⟩⟩,
        ⟨3, [2, 1, 0], false, ⟨(some 14), .load false 1 (.tmp 13), none⟩⟩,
        ⟨4, [], false, ⟨(some 15), .move (.tmp 5), none⟩⟩,
        ⟨5, [3, 4, 2, 1, 0], false, ⟨(some 16), .idxSlice 3 (.tmp 14) (.tmp 15), none⟩⟩,
        ⟨6, [5, 3, 4, 2, 1, 0], false, ⟨(some 17), .fieldAddr 2 (.tmp 16), none⟩⟩,
        ⟨7, [6, 5, 3, 4, 2, 1, 0], false, ⟨(some 18), .load false 1 (.tmp 17), none⟩⟩,
        ⟨8, [], false, ⟨(some 19), .move (.tmp 0), none⟩⟩,
        ⟨9, [8], false, ⟨(some 20), .nilCheck (.tmp 19), none⟩⟩,
        ⟨10, [9, 8], false, ⟨(some 21), .fieldAddr 4 (.tmp 20), none⟩⟩,
        ⟨11, [10, 9, 8], false, ⟨(some 22), .load false 1 (.tmp 21), none⟩⟩,
        ⟨12, [], false, ⟨(some 23), .move (.tmp 5), none⟩⟩,
        ⟨13, [11, 12, 10, 9, 8], false, ⟨(some 24), .idxSlice 3 (.tmp 22) (.tmp 23), none⟩⟩,
        ⟨14, [13, 11, 12, 10, 9, 8], false, ⟨(some 25), .fieldAddr 1 (.tmp 24), none⟩⟩,
        ⟨15, [14, 13, 11, 12, 10, 9, 8], false, ⟨(some 26), .load false 1 (.tmp 25), none⟩⟩,
        ⟨16, [7, 15, 6, 5, 3, 4, 2, 1, 0, 14, 13, 11, 12, 10, 9, 8], false, ⟨(some 27), .bin .eql (.tmp 18) (.tmp 26), none⟩⟩]) <|
    .cond (.tmp 27)
      (.seq (.reg [⟨(some 4), .move (.const (.int .i64 120)), none⟩]) <|
      .ret)
      (.skip)) <|
  .seq (.reg [⟨(some 28), .move (.tmp 0), none⟩,
      ⟨(some 29), .nilCheck (.tmp 28), none⟩,
      ⟨(some 30), .fieldAddr 4 (.tmp 29), none⟩,
      ⟨(some 31), .load false 1 (.tmp 30), none⟩,
      ⟨(some 32), .move (.tmp 5), none⟩,
      ⟨(some 33), .idxSlice 3 (.tmp 31) (.tmp 32), none⟩,
      ⟨(some 34), .fieldAddr 2 (.tmp 33), none⟩,
      ⟨(some 35), .load false 1 (.tmp 34), none⟩,
      ⟨(some 36), .bin .add (.tmp 35) (.const (.int .i64 1)), none⟩,
      ⟨(some 37), .idxSlice 3 (.tmp 31) (.tmp 32), none⟩,
      ⟨(some 38), .fieldAddr 2 (.tmp 37), none⟩,
      ⟨none, .store 1 (.tmp 38) (.tmp 36), none⟩]) <|
  .seq (.reg [⟨(some 39), .move (.tmp 0), none⟩,
      ⟨(some 40), .nilCheck (.tmp 39), none⟩,
      ⟨(some 41), .fieldAddr 2 (.tmp 40), none⟩,
      ⟨(some 42), .load false 1 (.tmp 41), none⟩,
      ⟨(some 43), .bin .add (.tmp 42) (.const (.int .i64 1)), none⟩,
      ⟨(some 44), .nilCheck (.tmp 39), none⟩,
      ⟨(some 45), .fieldAddr 2 (.tmp 44), none⟩,
      ⟨none, .store 1 (.tmp 45) (.tmp 43), none⟩]) <|
  .seq (.reg [⟨(some 4), .move (.const (.int .i64 0)), none⟩]) <|
  .ret, none⟩
-- f18: (*wicket/ledger.Ledger).Close
def c_ledger_Ledger_Close : AFun := ⟨[.tmp 4],
  .seq (.reg [⟨(some 4), .move (.const (.int .i64 0)), none⟩]) <|
  .seq (.block 0 <|
      .seq (.reg [⟨(some 6), .move (.tmp 0), none⟩,
          ⟨(some 7), .eqv false .ptr (.tmp 6) (.const (.pointer none)), none⟩,
          ⟨(some 5), .move (.tmp 7), none⟩]) <|
      .cond (.tmp 5)
        (.seq (.reg [⟨(some 4), .move (.const (.int .i64 1)), none⟩]) <|
        .ret)
        (.seq (.reg [⟨(some 9), .move (.tmp 0), none⟩,
            ⟨(some 10), .move (.tmp 1), none⟩,
            ⟨(some 11), .call k_ledger_Ledger_has [(.tmp 9), (.tmp 10)], none⟩,
            ⟨(some 12), .un .not (.tmp 11), none⟩,
            ⟨(some 8), .move (.tmp 12), none⟩]) <|
        .cond (.tmp 8)
          (.seq (.reg [⟨(some 4), .move (.const (.int .i64 110)), none⟩]) <|
          .ret)
          (.skip))) <|
  .seq (.regd [⟨0, [], false, ⟨(some 13), .move (.tmp 0), none⟩⟩,
      ⟨1, [0], false, ⟨(some 14), .nilCheck (.tmp 13), none⟩⟩,
      ⟨2, [1, 0], false, ⟨(some 15), .fieldAddr 3 (.tmp 14), none⟩⟩,
      ⟨3, [2, 1, 0], false, ⟨(some 16), .load false 1 (.tmp 15), none⟩⟩,
      ⟨4, [], false, ⟨(some 17), .move (.tmp 0), none⟩⟩,
      ⟨5, [4], false, ⟨(some 18), .nilCheck (.tmp 17), none⟩⟩,
      ⟨6, [5, 4], false, ⟨(some 19), .fieldAddr 4 (.tmp 18), none⟩⟩,
      ⟨7, [6, 5, 4], false, ⟨(some 20), .load false 1 (.tmp 19), none⟩⟩,
      ⟨8, [], false, ⟨(some 21), .move (.tmp 1), none⟩⟩,
      ⟨9, [7, 8, 6, 5, 4], false, ⟨(some 22), .lookup .u64 (.int .i64 0) (.tmp 20) (.tmp 21) false, none⟩⟩,
      ⟨10, [3, 9, 2, 1, 0, 7, 8, 6, 5, 4], false, ⟨(some 23), .bin .sub (.tmp 16) (.tmp 22), none⟩⟩,
      ⟨11, [0, 1, 2, 3, 4, 5, 6, 7, 8, 9, 10], false, ⟨(some 24), .nilCheck (.tmp 13), none⟩⟩,
      ⟨12, [11, 0, 1, 2, 3, 4, 5, 6, 7, 8, 9, 10], false, ⟨(some 25), .fieldAddr 3 (.tmp 24), none⟩⟩,
      ⟨13, [12, 10, 0, 1, 2, 3, 4, 5, 6, 7, 8, 9, 11], true, ⟨none, .store 1 (.tmp 25) (.tmp 23), none⟩⟩]) <|
  .seq (.reg [⟨(some 26), .move (.tmp 0), none⟩,
      ⟨(some 27), .nilCheck (.tmp 26), none⟩,
      ⟨(some 28), .fieldAddr 4 (.tmp 27), none⟩,
      ⟨(some 29), .load false 1 (.tmp 28), none⟩,
      ⟨(some 30), .move (.tmp 1), none⟩,
      ⟨none, .delete .u64 (.tmp 29) (.tmp 30), none⟩]) <|
  .seq (.reg [⟨(some 4), .move (.const (.int .i64 0)), none⟩]) <|
  .ret, none⟩
-- f19: (*wicket/wicketref12.Ledger).Close
def c_wicketref12_Ledger_Close : AFun := ⟨[.tmp 4],
  .seq (.reg [⟨(some 4), .move (.const (.int .i64 0)), none⟩]) <|
  .seq (.reg [⟨(some 6), .move (.tmp 0), none⟩,
      ⟨(some 7), .move (.tmp 1), none⟩,
      ⟨(some 8), .call k_wicketref12_Ledger_at [(.tmp 6), (.tmp 7)], none⟩,
      ⟨(some 5), .move (.tmp 8), none⟩]) <|
  .seq (.seq (.reg [⟨(some 9), .move (.tmp 5), none⟩,
        ⟨(some 10), .bin .lss (.tmp 9) (.const (.int .i64 0)), none⟩]) <|
    .cond (.tmp 10)
      (.seq (.reg [⟨(some 4), .move (.const (.int .i64 110)), none⟩]) <|
      .ret)
      (.skip)) <|
  .seq (.regd [⟨0, [], false, ⟨(some 11), .move (.tmp 0), none⟩⟩,
      ⟨1, [], false, ⟨(some 12), .buildSlice 0 3 [] [], none⟩⟩,
      ⟨2, [], false, ⟨(some 13), .move (.tmp 0), none⟩⟩,
      ⟨3, [2], false, ⟨(some 14), .nilCheck (.tmp 13), none⟩⟩,
      ⟨4, [3, 2], false, ⟨(some 15), .fieldAddr 4 (.tmp 14), none⟩⟩,
      ⟨5, [4, 3, 2], false, ⟨(some 16), .load false 1 (.tmp 15), none⟩⟩,
      ⟨6, [], false, ⟨(some 17), .move (.tmp 5), none⟩⟩,
      ⟨7, [5, 6, 4, 3, 2], false, ⟨(some 18), .slice 3 (.tmp 16) none (some (.tmp 17)) none, none⟩⟩,
      ⟨9, [], false, ⟨(some 20), .move (.tmp 0), none⟩⟩,
      ⟨10, [9], false, ⟨(some 21), .nilCheck (.tmp 20), none⟩⟩,
      ⟨11, [10, 9], false, ⟨(some 22), .fieldAddr 4 (.tmp 21), none⟩⟩,
      ⟨12, [11, 10, 9], false, ⟨(some 23), .load false 1 (.tmp 22), none⟩⟩,
      ⟨13, [], false, ⟨(some 24), .move (.tmp 5), none⟩⟩,
      ⟨14, [13], false, ⟨(some 25), .bin .add (.tmp 24) (.const (.int .i64 1)), none⟩⟩,
      ⟨15, [12, 14, 11, 10, 9, 13], false, ⟨(some 26), .slice 3 (.tmp 23) (some (.tmp 25)) none none, none⟩⟩,
      ⟨8, [1, 7, 5, 6, 4, 3, 2], true, ⟨(some 19), .append 24 3 (.tmp 12) (.tmp 18), none⟩⟩,
      ⟨16, [8, 15, 1, 7, 5, 6, 4, 3, 2, 12, 14, 11, 10, 9, 13], true, ⟨(some 27), .append 24 3 (.tmp 19) (.tmp 26), none⟩⟩,
      ⟨17, [0, 1, 2, 3, 4, 5, 6, 7, 8, 9, 10, 11, 12, 13, 14, 15, 16], false, ⟨(some 28), .nilCheck (.tmp 11), none⟩⟩,
      ⟨18, [17, 0, 1, 2, 3, 4, 5, 6, 7, 8, 9, 10, 11, 12, 13, 14, 15, 16], false, ⟨(some 29), .fieldAddr 4 (.tmp 28), none⟩⟩,
      ⟨19, [18, 16, 0, 1, 2, 3, 4, 5, 6, 7, 8, 9, 10, 11, 12, 13, 14, 15, 17], true, ⟨none, .store 1 (.tmp 29) (.tmp 27), none⟩⟩]) <|
  .seq (.reg [⟨(some 4), .move (.const (.int .i64 0)), none⟩]) <|
  .ret, none⟩
-- f20: (*wicket/ledger.Ledger).Free
def c_ledger_Ledger_Free : AFun := ⟨[.tmp 4],
  .seq (.reg [⟨(some 4), .move (.const (.int .i64 0)), none⟩]) <|
  .seq (.block 0 <|
      .seq (.reg [⟨(some 6), .move (.tmp 0), none⟩,
          ⟨(some 7), .eqv false .ptr (.tmp 6) (.const (.pointer none)), none⟩,
          ⟨(some 5), .move (.tmp 7), none⟩]) <|
      .cond (.tmp 5)
        (.seq (.reg [⟨(some 4), .move (.const (.int .i64 1)), none⟩]) <|
        .ret)
        (.seq (.reg [⟨(some 9), .move (.tmp 1), none⟩,
            ⟨(some 10), .bin .lss (.tmp 9) (.const (.int .i64 0)), none⟩,
            ⟨(some 11), .move (.tmp 10), none⟩,
            ⟨(some 12), .move (.tmp 1), some (11, false)⟩,
            ⟨(some 13), .move (.tmp 0), some (11, false)⟩,
            ⟨(some 14), .nilCheck (.tmp 13), some (11, false)⟩,
            ⟨(some 15), .fieldAddr 2 (.tmp 14), some (11, false)⟩,
            ⟨(some 16), .load false 1 (.tmp 15), some (11, false)⟩,
            ⟨(some 17), .bin .gtr (.tmp 12) (.tmp 16), some (11, false)⟩,
            ⟨(some 18), .pick (.tmp 11) (.const (.bool true)) (.tmp 17), none⟩,
            ⟨(some 8), .move (.tmp 18), none⟩]) <|
        .cond (.tmp 8)
          (.seq (.reg [⟨(some 4), .move (.const (.int .i64 2)), none⟩]) <|
          .ret)
          (.skip))) <|
  .seq (.reg [⟨(some 19), .move (.tmp 0), none⟩,
      ⟨(some 20), .nilCheck (.tmp 19), none⟩,
      ⟨(some 21), .fieldAddr 2 (.tmp 20), none⟩,
      ⟨(some 22), .load false 1 (.tmp 21), none⟩,
      ⟨(some 23), .move (.tmp 1), none⟩,
      ⟨(some 24), .bin .sub (.tmp 22) (.tmp 23), none⟩,
      ⟨(some 25), .nilCheck (.tmp 19), none⟩,
      ⟨(some 26), .fieldAddr 2 (.tmp 25), none⟩,
      ⟨none, .store 1 (.tmp 26) (.tmp 24), none⟩]) <|
  .seq (.reg [⟨(some 4), .move (.const (.int .i64 0)), none⟩]) <|
  .ret, none⟩
-- f21: (*wicket/wicketref12.Ledger).Free
def c_wicketref12_Ledger_Free : AFun := ⟨[.tmp 4],
  .seq (.reg [⟨(some 4), .move (.const (.int .i64 0)), none⟩]) <|
  .seq (.seq (.reg [⟨(some 5), .move (.tmp 1), none⟩,
        ⟨(some 6), .bin .lss (.tmp 5) (.const (.int .i64 0)), none⟩,
        ⟨(some 7), .move (.tmp 6), none⟩,
        ⟨(some 8), .move (.tmp 1), some (7, false)⟩,
        ⟨(some 9), .move (.tmp 0), some (7, false)⟩,
        ⟨(some 10), .call k_wicketref12_Ledger_Used [(.tmp 9)], some (7, false)⟩,
        ⟨(some 11), .bin .gtr (.tmp 8) (.tmp 10), some (7, false)⟩,
        ⟨(some 12), .pick (.tmp 7) (.const (.bool true)) (.tmp 11), none⟩]) <|
    .cond (.tmp 12)
      (.seq (.reg [⟨(some 4), .move (.const (.int .i64 2)), none⟩]) <|
      .ret)
      (.skip)) <|
  .seq (.reg [⟨(some 13), .move (.tmp 0), none⟩,
      ⟨(some 14), .move (.tmp 0), none⟩,
      ⟨(some 15), .nilCheck (.tmp 14), none⟩,
      ⟨(some 16), .fieldAddr 3 (.tmp 15), none⟩,
      ⟨(some 17), .load false 1 (.tmp 16), none⟩,
      ⟨(some 18), .move (.tmp 1), none⟩,
      ⟨(some 19), .bin .add (.tmp 17) (.tmp 18), none⟩,
      ⟨(some 20), .nilCheck (.tmp 13), none⟩,
      ⟨(some 21), .fieldAddr 3 (.tmp 20), none⟩,
      ⟨none, .store 1 (.tmp 21) (.tmp 19), none⟩]) <|
  .seq (.reg [⟨(some 4), .move (.const (.int .i64 0)), none⟩]) <|
  .ret, none⟩
-- f22: (*wicket/ledger.Ledger).Copy
def c_ledger_Ledger_Copy : AFun := ⟨[.tmp 2],
  .seq (.reg [⟨(some 2), .move (.const (.pointer none)), none⟩]) <|
  .seq (.seq (.reg [⟨(some 4), .move (.tmp 0), none⟩,
        ⟨(some 5), .eqv false .ptr (.tmp 4) (.const (.pointer none)), none⟩]) <|
    .cond (.tmp 5)
      (.seq (.reg [⟨(some 2), .move (.const (.pointer none)), none⟩]) <|
      .ret)
      (.skip)) <|
  .seq (.reg [⟨(some 6), .move (.tmp 0), none⟩,
      ⟨(some 7), .nilCheck (.tmp 6), none⟩,
      ⟨(some 8), .load true 5 (.tmp 7), none⟩,
      ⟨(some 3), .alloc [(.int .i64 0), (.int .i64 0), (.int .i64 0), (.int .i64 0), (.map none)], none⟩,
      ⟨none, .store 5 (.tmp 3) (.tmp 8), none⟩]) <|
  .seq (.reg [⟨(some 9), .move (.tmp 0), none⟩,
      ⟨(some 10), .nilCheck (.tmp 9), none⟩,
      ⟨(some 11), .fieldAddr 4 (.tmp 10), none⟩,
      ⟨(some 12), .load false 1 (.tmp 11), none⟩,
      ⟨(some 13), .call k_maps_Clone_map_uint64_int_uint64_int [(.tmp 12)], none⟩,
      ⟨(some 14), .fieldAddr 4 (.tmp 3), none⟩,
      ⟨none, .store 1 (.tmp 14) (.tmp 13), none⟩]) <|
  .seq (.reg [⟨(some 2), .move (.tmp 3), none⟩]) <|
  .ret, none⟩
-- f23: (*wicket/wicketref12.Ledger).Copy
def c_wicketref12_Ledger_Copy : AFun := ⟨[.tmp 2],
  .seq (.reg [⟨(some 2), .move (.const (.pointer none)), none⟩]) <|
  .seq (.reg [⟨(some 4), .move (.tmp 0), none⟩,
      ⟨(some 5), .nilCheck (.tmp 4), none⟩,
      ⟨(some 6), .load true 5 (.tmp 5), none⟩,
      ⟨(some 3), .alloc [(.int .i64 0), (.int .i64 0), (.int .i64 0), (.int .i64 0), (.slice none 0 0)], none⟩,
      ⟨none, .store 5 (.tmp 3) (.tmp 6), none⟩]) <|
  .seq (.reg [⟨(some 7), .buildSlice 0 3 [] [], none⟩,
      ⟨(some 8), .move (.tmp 0), none⟩,
      ⟨(some 9), .nilCheck (.tmp 8), none⟩,
      ⟨(some 10), .fieldAddr 4 (.tmp 9), none⟩,
      ⟨(some 11), .load false 1 (.tmp 10), none⟩,
      ⟨(some 12), .append 24 3 (.tmp 7) (.tmp 11), none⟩,
      ⟨(some 13), .fieldAddr 4 (.tmp 3), none⟩,
      ⟨none, .store 1 (.tmp 13) (.tmp 12), none⟩]) <|
  .seq (.reg [⟨(some 2), .move (.tmp 3), none⟩]) <|
  .ret, none⟩
-- f24: (*wicket/wicketref12.Ledger).Left
def c_wicketref12_Ledger_Left : AFun := ⟨[.tmp 4, .tmp 5],
  .seq (.reg [⟨(some 4), .move (.const (.int .i64 0)), none⟩,
      ⟨(some 5), .move (.const (.bool false)), none⟩]) <|
  .seq (.reg [⟨(some 7), .move (.tmp 0), none⟩,
      ⟨(some 8), .move (.tmp 1), none⟩,
      ⟨(some 9), .call k_wicketref12_Ledger_at [(.tmp 7), (.tmp 8)], none⟩,
      ⟨(some 6), .move (.tmp 9), none⟩]) <|
  .seq (.seq (.reg [⟨(some 10), .move (.tmp 6), none⟩,
        ⟨(some 11), .bin .lss (.tmp 10) (.const (.int .i64 0)), none⟩]) <|
    .cond (.tmp 11)
      (.seq (.reg [⟨(some 4), .move (.const (.int .i64 0)), none⟩,
          ⟨(some 5), .move (.const (.bool false)), none⟩]) <|
      .ret)
      (.skip)) <|
  .seq (.regd [⟨0, [], false, ⟨(some 12), .move (.tmp 0), none⟩⟩,
      ⟨1, [0], false, ⟨(some 13), .nilCheck (.tmp 12), none⟩⟩,
      ⟨2, [1, 0], false, ⟨(some 14), .fieldAddr 4 (.tmp 13), none⟩⟩,
      ⟨3, [2, 1, 0], false, ⟨(some 15), .load false 1 (.tmp 14), none⟩⟩,
      ⟨4, [], false, ⟨(some 16), .move (.tmp 6), none⟩⟩,
      ⟨5, [3, 4, 2, 1, 0], false, ⟨(some 17), .idxSlice 3 (.tmp 15) (.tmp 16), none⟩⟩,
      ⟨6, [5, 3, 4, 2, 1, 0], false, ⟨(some 18), .fieldAddr 1 (.tmp 17), none⟩⟩,
      ⟨7, [6, 5, 3, 4, 2, 1, 0], false, ⟨(some 19), .load false 1 (.tmp 18), none⟩⟩,
      ⟨8, [], false, ⟨(some 20), .move (.tmp 0), none⟩⟩,
      ⟨9, [8], false, ⟨(some 21), .nilCheck (.tmp 20), none⟩⟩,
      ⟨10, [9, 8], false, ⟨(some 22), .fieldAddr 4 (.tmp 21), none⟩⟩,
      ⟨11, [10, 9, 8], false, ⟨(some 23), .load false 1 (.tmp 22), none⟩⟩,
      ⟨12, [], false, ⟨(some 24), .move (.tmp 6), none⟩⟩,
      ⟨13, [11, 12, 10, 9, 8], false, ⟨(some 25), .idxSlice 3 (.tmp 23) (.tmp 24), none⟩⟩,
      ⟨14, [13, 11, 12, 10, 9, 8], false, ⟨(some 26), .fieldAddr 2 (.tmp 25), none⟩⟩,
      ⟨15, [14, 13, 11, 12, 10, 9, 8], false, ⟨(some 27), .load false 1 (.tmp 26), none⟩⟩,
      ⟨16, [7, 15, 6, 5, 3, 4, 2, 1, 0, 14, 13, 11, 12, 10, 9, 8], false, ⟨(some 28), .bin .sub (.tmp 19) (.tmp 27), none⟩⟩,
      ⟨17, [16, 0, 1, 2, 3, 4, 5, 6, 7, 8, 9, 10, 11, 12, 13, 14, 15], false, ⟨(some 4), .move (.tmp 28), none⟩⟩,
      ⟨18, [17, 0, 1, 2, 3, 4, 5, 6, 7, 8, 9, 10, 11, 12, 13, 14, 15, 16], false, ⟨(some 5), .move (.const (.bool true)), none⟩⟩]) <|
  .ret, none⟩
-- f25: (*wicket/wicketref12.Ledger).Used
def c_wicketref12_Ledger_Used : AFun := ⟨[.tmp 2],
  .seq (.reg [⟨(some 2), .move (.const (.int .i64 0)), none⟩]) <|
  .seq (.regd [⟨0, [], false, ⟨(some 3), .move (.tmp 0), none⟩⟩,
      ⟨1, [0], false, ⟨(some 4), .nilCheck (.tmp 3), none⟩⟩,
      ⟨2, [1, 0], false, ⟨(some 5), .fieldAddr 2 (.tmp 4), none⟩⟩,
      ⟨3, [2, 1, 0], false, ⟨(some 6), .load false 1 (.tmp 5), none⟩⟩,
      ⟨4, [], false, ⟨(some 7), .move (.tmp 0), none⟩⟩,
      ⟨5, [4], false, ⟨(some 8), .nilCheck (.tmp 7), none⟩⟩,
      ⟨6, [5, 4], false, ⟨(some 9), .fieldAddr 3 (.tmp 8), none⟩⟩,
      ⟨7, [6, 5, 4], false, ⟨(some 10), .load false 1 (.tmp 9), none⟩⟩,
      ⟨8, [3, 7, 2, 1, 0, 6, 5, 4], false, ⟨(some 11), .bin .sub (.tmp 6) (.tmp 10), none⟩⟩,
      ⟨9, [8, 0, 1, 2, 3, 4, 5, 6, 7], false, ⟨(some 2), .move (.tmp 11), none⟩⟩]) <|
  .ret, none⟩
-- f26: (*wicket/wicketref12.Ledger).Reserved
def c_wicketref12_Ledger_Reserved_S0 : AC :=
  .reg [⟨(some 2), .move (.const (.int .i64 0)), none⟩]
def c_wicketref12_Ledger_Reserved_S1 : AC :=
  .reg [⟨(some 3), .move (.const (.int .i64 0)), none⟩]
def c_wicketref12_Ledger_Reserved_S2 : AC :=
  .reg [⟨(some 4), .move (.const (.int .i64 0)), none⟩]
def c_wicketref12_Ledger_Reserved_S3 : AC :=
  .reg [⟨(some 5), .move (.tmp 4), none⟩,
    ⟨(some 6), .move (.tmp 0), none⟩,
    ⟨(some 7), .nilCheck (.tmp 6), none⟩,
    ⟨(some 8), .fieldAddr 4 (.tmp 7), none⟩,
    ⟨(some 9), .load false 1 (.tmp 8), none⟩,
    ⟨(some 10), .lenS (.tmp 9), none⟩,
    ⟨(some 11), .bin .lss (.tmp 5) (.tmp 10), none⟩]
def c_wicketref12_Ledger_Reserved_S4 : AC :=
  .seq c_wicketref12_Ledger_Reserved_S3 <|
  .cond (.tmp 11)
    (.skip)
    (.exit 0)
def c_wicketref12_Ledger_Reserved_S5 : AC :=
  .block 1 <|
    .regd [⟨0, [], false, ⟨(some 14), .move (.tmp 3), none⟩⟩,
      ⟨1, [], false, ⟨(some 15), .move (.tmp 0), none⟩⟩,
      ⟨2, [1], false, ⟨(some 16), .nilCheck (.tmp 15), none⟩⟩,
      ⟨3, [2, 1], false, ⟨(some 17), .fieldAddr 4 (.tmp 16), none⟩⟩,
      ⟨4, [3, 2, 1], false, ⟨(some 18), .load false 1 (.tmp 17), none⟩⟩,
      ⟨5, [], false, ⟨(some 19), .move (.tmp 4), none⟩⟩,
      ⟨6, [4, 5, 3, 2, 1], false, ⟨(some 20), .idxSlice 3 (.tmp 18) (.tmp 19), none⟩⟩,
      ⟨7, [6, 4, 5, 3, 2, 1], false, ⟨(some 21), .fieldAddr 1 (.tmp 20), none⟩⟩,
      ⟨8, [7, 6, 4, 5, 3, 2, 1], false, ⟨(some 22), .load false 1 (.tmp 21), none⟩⟩,
      ⟨9, [0, 8, 7, 6, 4, 5, 3, 2, 1], false, ⟨(some 23), .bin .add (.tmp 14) (.tmp 22), none⟩⟩,
      ⟨10, [], false, ⟨(some 24), .move (.tmp 0), none⟩⟩,
      ⟨11, [10], false, ⟨(some 25), .nilCheck (.tmp 24), none⟩⟩,
      ⟨12, [11, 10], false, ⟨(some 26), .fieldAddr 4 (.tmp 25), none⟩⟩,
      ⟨13, [12, 11, 10], false, ⟨(some 27), .load false 1 (.tmp 26), none⟩⟩,
      ⟨14, [], false, ⟨(some 28), .move (.tmp 4), none⟩⟩,
      ⟨15, [13, 14, 12, 11, 10], false, ⟨(some 29), .idxSlice 3 (.tmp 27) (.tmp 28), none⟩⟩,
      ⟨16, [15, 13, 14, 12, 11, 10], false, ⟨(some 30), .fieldAddr 2 (.tmp 29), none⟩⟩,
      ⟨17, [16, 15, 13, 14, 12, 11, 10], false, ⟨(some 31), .load false 1 (.tmp 30), none⟩⟩,
      ⟨18, [9, 17, 0, 8, 7, 6, 4, 5, 3, 2, 1, 16, 15, 13, 14, 12, 11, 10], false, ⟨(some 32), .bin .sub (.tmp 23) (.tmp 31), none⟩⟩,
      ⟨19, [18, 0, 1, 2, 3, 4, 5, 6, 7, 8, 9, 10, 11, 12, 13, 14, 15, 16, 17], true, ⟨(some 3), .move (.tmp 32), none⟩⟩]
def c_wicketref12_Ledger_Reserved_L6 : AC :=
  .seq c_wicketref12_Ledger_Reserved_S4 <|
  .seq c_wicketref12_Ledger_Reserved_S5 <|
  .reg [⟨(some 12), .move (.tmp 4), none⟩,
    ⟨(some 13), .bin .add (.tmp 12) (.const (.int .i64 1)), none⟩,
    ⟨(some 4), .move (.tmp 13), none⟩]
def c_wicketref12_Ledger_Reserved_S7 : AC :=
  .seq c_wicketref12_Ledger_Reserved_S2 <|
  .block 0 <|
    .loop c_wicketref12_Ledger_Reserved_L6
def c_wicketref12_Ledger_Reserved_S8 : AC :=
  .reg [⟨(some 33), .move (.tmp 3), none⟩,
    ⟨(some 2), .move (.tmp 33), none⟩]
def c_wicketref12_Ledger_Reserved : AFun := ⟨[.tmp 2],
  .seq c_wicketref12_Ledger_Reserved_S0 <|
  .seq c_wicketref12_Ledger_Reserved_S1 <|
  .seq c_wicketref12_Ledger_Reserved_S7 <|
  .seq c_wicketref12_Ledger_Reserved_S8 <|
  .ret, none⟩
-- f27: (*wicket/wicketref12.Ledger).Marked
def c_wicketref12_Ledger_Marked : AFun := ⟨[.tmp 2],
  .seq (.reg [⟨(some 2), .move (.const (.bool false)), none⟩]) <|
  .seq (.regd [⟨0, [], false, ⟨(some 3), .move (.tmp 0), none⟩⟩,
      ⟨2, [], false, ⟨(some 5), .move (.tmp 0), none⟩⟩,
      ⟨3, [2], false, ⟨(some 6), .nilCheck (.tmp 5), none⟩⟩,
      ⟨4, [3, 2], false, ⟨(some 7), .fieldAddr 1 (.tmp 6), none⟩⟩,
      ⟨5, [4, 3, 2], false, ⟨(some 8), .load false 1 (.tmp 7), none⟩⟩,
      ⟨1, [0], true, ⟨(some 4), .call k_wicketref12_Ledger_Used [(.tmp 3)], none⟩⟩,
      ⟨6, [1, 5, 0, 4, 3, 2], false, ⟨(some 9), .bin .geq (.tmp 4) (.tmp 8), none⟩⟩,
      ⟨7, [6, 1, 0, 2, 3, 4, 5], false, ⟨(some 2), .move (.tmp 9), none⟩⟩]) <|
  .ret, none⟩
-- f28: (*wicket/wicketref12.Ledger).Fits
def c_wicketref12_Ledger_Fits : AFun := ⟨[.tmp 4],
  .seq (.reg [⟨(some 4), .move (.const (.bool false)), none⟩]) <|
  .seq (.regd [⟨0, [], false, ⟨(some 5), .move (.tmp 1), none⟩⟩,
      ⟨1, [0], false, ⟨(some 6), .bin .geq (.tmp 5) (.const (.int .i64 1)), none⟩⟩,
      ⟨2, [1, 0], false, ⟨(some 7), .move (.tmp 6), none⟩⟩,
      ⟨3, [2, 1, 0], false, ⟨(some 8), .move (.tmp 1), some (7, true)⟩⟩,
      ⟨4, [3, 2, 1, 0], false, ⟨(some 9), .bin .leq (.tmp 8) (.const (.int .i64 64)), some (7, true)⟩⟩,
      ⟨5, [2, 4, 1, 0, 3], false, ⟨(some 10), .pick (.tmp 7) (.tmp 9) (.const (.bool false)), none⟩⟩,
      ⟨6, [5, 2, 4, 1, 0, 3], false, ⟨(some 11), .move (.tmp 10), none⟩⟩,
      ⟨7, [6, 5, 2, 4, 1, 0, 3], false, ⟨(some 12), .move (.tmp 0), some (11, true)⟩⟩,
      ⟨9, [6, 5, 2, 4, 1, 0, 3], false, ⟨(some 14), .move (.tmp 0), some (11, true)⟩⟩,
      ⟨12, [6, 5, 2, 4, 1, 0, 3], false, ⟨(some 17), .move (.tmp 1), some (11, true)⟩⟩,
      ⟨14, [6, 5, 2, 4, 1, 0, 3], false, ⟨(some 19), .move (.tmp 0), some (11, true)⟩⟩,
      ⟨15, [14, 6, 5, 2, 4, 1, 0, 3], false, ⟨(some 20), .nilCheck (.tmp 19), some (11, true)⟩⟩,
      ⟨16, [15, 6, 14, 5, 2, 4, 1, 0, 3], false, ⟨(some 21), .fieldAddr 0 (.tmp 20), some (11, true)⟩⟩,
      ⟨17, [16, 6, 15, 14, 5, 2, 4, 1, 0, 3], false, ⟨(some 22), .load false 1 (.tmp 21), some (11, true)⟩⟩,
      ⟨8, [7, 6, 5, 2, 4, 1, 0, 3], true, ⟨(some 13), .call k_wicketref12_Ledger_Used [(.tmp 12)], some (11, true)⟩⟩,
      ⟨10, [9, 8, 6, 5, 2, 4, 1, 0, 3, 7], true, ⟨(some 15), .call k_wicketref12_Ledger_Reserved [(.tmp 14)], some (11, true)⟩⟩,
      ⟨11, [8, 10, 6, 7, 5, 2, 4, 1, 0, 3, 9], false, ⟨(some 16), .bin .add (.tmp 13) (.tmp 15), some (11, true)⟩⟩,
      ⟨13, [11, 12, 6, 8, 10, 7, 5, 2, 4, 1, 0, 3, 9], false, ⟨(some 18), .bin .add (.tmp 16) (.tmp 17), some (11, true)⟩⟩,
      ⟨18, [13, 17, 6, 11, 12, 8, 10, 7, 5, 2, 4, 1, 0, 3, 9, 16, 15, 14], false, ⟨(some 23), .bin .leq (.tmp 18) (.tmp 22), some (11, true)⟩⟩,
      ⟨19, [6, 18, 5, 2, 4, 1, 0, 3, 13, 17, 11, 12, 8, 10, 7, 9, 16, 15, 14], false, ⟨(some 24), .pick (.tmp 11) (.tmp 23) (.const (.bool false)), none⟩⟩,
      ⟨20, [19, 10, 0, 1, 2, 3, 4, 5, 6, 7, 8, 9, 11, 12, 13, 14, 15, 16, 17, 18], false, ⟨(some 4), .move (.tmp 24), none⟩⟩]) <|
  .ret, none⟩
-- f29: (*wicket/ledger.Ledger).has
def c_ledger_Ledger_has : AFun := ⟨[.tmp 4],
  .seq (.reg [⟨(some 4), .move (.const (.bool false)), none⟩]) <|
  .seq (.reg [⟨(some 8), .move (.tmp 0), none⟩,
      ⟨(some 9), .nilCheck (.tmp 8), none⟩,
      ⟨(some 10), .fieldAddr 4 (.tmp 9), none⟩,
      ⟨(some 11), .load false 1 (.tmp 10), none⟩,
      ⟨(some 12), .move (.tmp 1), none⟩,
      ⟨(some 13), .lookup .u64 (.int .i64 0) (.tmp 11) (.tmp 12) true, none⟩,
      ⟨(some 7), .move (.tmp 13), none⟩,
      ⟨(some 14), .extract (.tmp 7) 0, none⟩,
      ⟨(some 15), .extract (.tmp 7) 1, none⟩,
      ⟨(some 5), .move (.tmp 14), none⟩,
      ⟨(some 6), .move (.tmp 15), none⟩]) <|
  .seq (.reg [⟨(some 16), .move (.tmp 6), none⟩,
      ⟨(some 4), .move (.tmp 16), none⟩]) <|
  .ret, none⟩
-- f30: (*wicket/wicketref12.Ledger).at
def c_wicketref12_Ledger_at_S0 : AC :=
  .reg [⟨(some 4), .move (.const (.int .i64 0)), none⟩]
def c_wicketref12_Ledger_at_S1 : AC :=
  .reg [⟨(some 5), .move (.const (.int .i64 0)), none⟩]
def c_wicketref12_Ledger_at_S2 : AC :=
  .reg [⟨(some 6), .move (.tmp 5), none⟩,
    ⟨(some 7), .move (.tmp 0), none⟩,
    ⟨(some 8), .nilCheck (.tmp 7), none⟩,
    ⟨(some 9), .fieldAddr 4 (.tmp 8), none⟩,
    ⟨(some 10), .load false 1 (.tmp 9), none⟩,
    ⟨(some 11), .lenS (.tmp 10), none⟩,
    ⟨(some 12), .bin .lss (.tmp 6) (.tmp 11), none⟩]
def c_wicketref12_Ledger_at_S3 : AC :=
  .seq c_wicketref12_Ledger_at_S2 <|
  .cond (.tmp 12)
    (.skip)
    (.exit 0)
def c_wicketref12_Ledger_at_S4 : AC :=
  .reg [⟨(some 15), .move (.tmp 0), none⟩,
    ⟨(some 16), .nilCheck (.tmp 15), none⟩,
    ⟨(some 17), .fieldAddr 4 (.tmp 16), none⟩,
    ⟨(some 18), .load false 1 (.tmp 17), none⟩,
    ⟨(some 19), .move (.tmp 5), none⟩,
    ⟨(some 20), .idxSlice 3 (.tmp 18) (.tmp 19), none⟩,
    ⟨(some 21), .fieldAddr 0 (.tmp 20), none⟩,
    ⟨(some 22), .load false 1 (.tmp 21), none⟩,
    ⟨(some 23), .move (.tmp 1), none⟩,
    ⟨(some 24), .bin .eql (.tmp 22) (.tmp 23), none⟩]
def c_wicketref12_Ledger_at_S5 : AC :=
  .reg [⟨(some 25), .move (.tmp 5), none⟩,
    ⟨(some 4), .move (.tmp 25), none⟩]
def c_wicketref12_Ledger_at_S6 : AC :=
  .block 1 <|
    .seq c_wicketref12_Ledger_at_S4 <|
    .cond (.tmp 24)
      (.seq c_wicketref12_Ledger_at_S5 <|
      .ret)
      (.skip)
def c_wicketref12_Ledger_at_L7 : AC :=
  .seq c_wicketref12_Ledger_at_S3 <|
  .seq c_wicketref12_Ledger_at_S6 <|
  .reg [⟨(some 13), .move (.tmp 5), none⟩,
    ⟨(some 14), .bin .add (.tmp 13) (.const (.int .i64 1)), none⟩,
    ⟨(some 5), .move (.tmp 14), none⟩]
def c_wicketref12_Ledger_at_S8 : AC :=
  .seq c_wicketref12_Ledger_at_S1 <|
  .block 0 <|
    .loop c_wicketref12_Ledger_at_L7
def c_wicketref12_Ledger_at_S9 : AC :=
  .reg [⟨(some 4), .move (.const (.int .i64 (-1))), none⟩]
def c_wicketref12_Ledger_at : AFun := ⟨[.tmp 4],
  .seq c_wicketref12_Ledger_at_S0 <|
  .seq c_wicketref12_Ledger_at_S8 <|
  .seq c_wicketref12_Ledger_at_S9 <|
  .ret, none⟩
-- f31: maps.Clone[map[uint64]int,uint64,int]
def c_maps_Clone_map_uint64_int_uint64_int : AFun := ⟨[.tmp 2],
  .seq (.reg [⟨(some 2), .move (.const (.map none)), none⟩]) <|
  .seq (.seq (.reg [⟨(some 3), .move (.tmp 0), none⟩,
        ⟨(some 4), .eqv false .map (.tmp 3) (.const (.map none)), none⟩]) <|
    .cond (.tmp 4)
      (.seq (.reg [⟨(some 2), .move (.const (.map none)), none⟩]) <|
      .ret)
      (.skip)) <|
  .seq (.bad) <|
  .ret, none⟩
end Go.Proofs.Ytnkhlohphaomlaa
