/- The abstract machine's code of the functions at hand, as it is compiled. -/
import Derived.Test.YtnpegkmoadjjeaaSim
namespace Go.Proofs.Ytnpegkmoadjjeaa
open Go
set_option maxRecDepth 100000
def k_wicketlaw12_LedgerRoom : Nat := 3
def k_ledger_New : Nat := 4
def k_wicketlaw12_awake : Nat := 5
def k_ledger_Ledger_Used : Nat := 6
def k_ledger_Ledger_Reserved : Nat := 7
def k_ledger_Ledger_Reserve : Nat := 8
def k_ledger_Ledger_Append : Nat := 9
def k_ledger_Ledger_Close : Nat := 10
def k_ledger_Ledger_Free : Nat := 11
def k_ledger_Ledger_Fits : Nat := 12
def k_ledger_Ledger_Left : Nat := 13
def k_ledger_Ledger_Marked : Nat := 14
def k_ledger_Ledger_has : Nat := 15
-- f3: wicket/wicketlaw12.LedgerRoom
def c_wicketlaw12_LedgerRoom_S0 : AC :=
  .reg [⟨(some 4), .move (.const (.bool false)), none⟩]
def c_wicketlaw12_LedgerRoom_S1 : AC :=
  .reg [⟨(some 23), .move (.tmp 0), none⟩,
    ⟨(some 24), .bin .rem (.tmp 23) (.const (.int .i64 63)), none⟩,
    ⟨(some 25), .bin .add (.tmp 24) (.const (.int .i64 63)), none⟩,
    ⟨(some 26), .bin .rem (.tmp 25) (.const (.int .i64 63)), none⟩,
    ⟨(some 27), .bin .add (.tmp 26) (.const (.int .i64 2)), none⟩,
    ⟨(some 5), .move (.tmp 27), none⟩]
def c_wicketlaw12_LedgerRoom_S2 : AC :=
  .reg [⟨(some 29), .move (.tmp 5), none⟩,
    ⟨(some 30), .move (.tmp 5), none⟩,
    ⟨(some 31), .call k_ledger_New [(.tmp 29), (.tmp 30)], none⟩,
    ⟨(some 28), .move (.tmp 31), none⟩,
    ⟨(some 32), .extract (.tmp 28) 0, none⟩,
    ⟨(some 33), .extract (.tmp 28) 1, none⟩,
    ⟨(some 6), .move (.tmp 32), none⟩,
    ⟨(some 7), .move (.tmp 33), none⟩]
def c_wicketlaw12_LedgerRoom_S3 : AC :=
  .reg [⟨(some 34), .call k_wicketlaw12_awake [], none⟩,
    ⟨(some 35), .un .not (.tmp 34), none⟩,
    ⟨(some 36), .move (.tmp 35), none⟩,
    ⟨(some 37), .move (.tmp 7), some (36, false)⟩,
    ⟨(some 38), .bin .neq (.tmp 37) (.const (.int .i64 0)), some (36, false)⟩,
    ⟨(some 39), .pick (.tmp 36) (.const (.bool true)) (.tmp 38), none⟩,
    ⟨(some 40), .move (.tmp 39), none⟩,
    ⟨(some 41), .move (.tmp 6), some (40, false)⟩,
    ⟨(some 42), .eqv false .ptr (.tmp 41) (.const (.pointer none)), some (40, false)⟩,
    ⟨(some 43), .pick (.tmp 40) (.const (.bool true)) (.tmp 42), none⟩]
def c_wicketlaw12_LedgerRoom_S4 : AC :=
  .reg [⟨(some 4), .move (.const (.bool false)), none⟩]
def c_wicketlaw12_LedgerRoom_S5 : AC :=
  .seq c_wicketlaw12_LedgerRoom_S3 <|
  .cond (.tmp 43)
    (.seq c_wicketlaw12_LedgerRoom_S4 <|
    .ret)
    (.skip)
def c_wicketlaw12_LedgerRoom_S6 : AC :=
  .reg [⟨(some 8), .move (.const (.slice none 0 0)), none⟩]
def c_wicketlaw12_LedgerRoom_S7 : AC :=
  .reg [⟨(some 9), .move (.const (.slice none 0 0)), none⟩]
def c_wicketlaw12_LedgerRoom_S8 : AC :=
  .reg [⟨(some 10), .move (.const (.int .i64 0)), none⟩]
def c_wicketlaw12_LedgerRoom_S9 : AC :=
  .reg [⟨(some 11), .move (.const (.int .i64 0)), none⟩]
def c_wicketlaw12_LedgerRoom_S10 : AC :=
  .reg [⟨(some 44), .move (.tmp 11), none⟩,
    ⟨(some 45), .move (.tmp 1), none⟩,
    ⟨(some 46), .lenS (.tmp 45), none⟩,
    ⟨(some 47), .bin .lss (.tmp 44) (.tmp 46), none⟩,
    ⟨(some 48), .move (.tmp 47), none⟩,
    ⟨(some 49), .move (.tmp 11), some (48, true)⟩,
    ⟨(some 50), .bin .lss (.tmp 49) (.const (.int .i64 150)), some (48, true)⟩,
    ⟨(some 51), .pick (.tmp 48) (.tmp 50) (.const (.bool false)), none⟩]
def c_wicketlaw12_LedgerRoom_S11 : AC :=
  .seq c_wicketlaw12_LedgerRoom_S10 <|
  .cond (.tmp 51)
    (.skip)
    (.exit 0)
def c_wicketlaw12_LedgerRoom_S12 : AC :=
  .reg [⟨(some 54), .move (.tmp 1), none⟩,
    ⟨(some 55), .move (.tmp 11), none⟩,
    ⟨(some 56), .idxSlice 4 (.tmp 54) (.tmp 55), none⟩,
    ⟨(some 57), .load true 4 (.tmp 56), none⟩,
    ⟨(some 12), .alloc [(.int .i64 0), (.int .i64 0), (.int .u64 0), (.int .i64 0)], none⟩,
    ⟨none, .store 4 (.tmp 12) (.tmp 57), none⟩]
def c_wicketlaw12_LedgerRoom_S13 : AC :=
  .reg [⟨(some 13), .move (.const (.int .i64 (-1))), none⟩,
    ⟨(some 14), .move (.const (.int .i64 0)), none⟩]
def c_wicketlaw12_LedgerRoom_S14 : AC :=
  .reg [⟨(some 15), .move (.const (.int .i64 0)), none⟩]
def c_wicketlaw12_LedgerRoom_S15 : AC :=
  .reg [⟨(some 58), .move (.tmp 15), none⟩,
    ⟨(some 59), .move (.tmp 8), none⟩,
    ⟨(some 60), .lenS (.tmp 59), none⟩,
    ⟨(some 61), .bin .lss (.tmp 58) (.tmp 60), none⟩]
def c_wicketlaw12_LedgerRoom_S16 : AC :=
  .seq c_wicketlaw12_LedgerRoom_S15 <|
  .cond (.tmp 61)
    (.skip)
    (.exit 2)
def c_wicketlaw12_LedgerRoom_S17 : AC :=
  .reg [⟨(some 64), .move (.tmp 14), none⟩,
    ⟨(some 65), .move (.tmp 9), none⟩,
    ⟨(some 66), .move (.tmp 15), none⟩,
    ⟨(some 67), .idxSlice 1 (.tmp 65) (.tmp 66), none⟩,
    ⟨(some 68), .load false 1 (.tmp 67), none⟩,
    ⟨(some 69), .bin .add (.tmp 64) (.tmp 68), none⟩,
    ⟨(some 14), .move (.tmp 69), none⟩]
def c_wicketlaw12_LedgerRoom_S18 : AC :=
  .regd [⟨0, [], false, ⟨(some 70), .move (.tmp 8), none⟩⟩,
    ⟨1, [], false, ⟨(some 71), .move (.tmp 15), none⟩⟩,
    ⟨2, [0, 1], false, ⟨(some 72), .idxSlice 1 (.tmp 70) (.tmp 71), none⟩⟩,
    ⟨3, [2, 0, 1], false, ⟨(some 73), .load false 1 (.tmp 72), none⟩⟩,
    ⟨4, [], false, ⟨(some 74), .fieldAddr 2 (.tmp 12), none⟩⟩,
    ⟨5, [4], false, ⟨(some 75), .load false 1 (.tmp 74), none⟩⟩,
    ⟨6, [3, 5, 2, 0, 1, 4], false, ⟨(some 76), .bin .eql (.tmp 73) (.tmp 75), none⟩⟩]
def c_wicketlaw12_LedgerRoom_S19 : AC :=
  .block 3 <|
    .seq c_wicketlaw12_LedgerRoom_S17 <|
    .seq c_wicketlaw12_LedgerRoom_S18 <|
    .cond (.tmp 76)
      (.reg [⟨(some 77), .move (.tmp 15), none⟩,
        ⟨(some 13), .move (.tmp 77), none⟩])
      (.skip)
def c_wicketlaw12_LedgerRoom_L20 : AC :=
  .seq c_wicketlaw12_LedgerRoom_S16 <|
  .seq c_wicketlaw12_LedgerRoom_S19 <|
  .reg [⟨(some 62), .move (.tmp 15), none⟩,
    ⟨(some 63), .bin .add (.tmp 62) (.const (.int .i64 1)), none⟩,
    ⟨(some 15), .move (.tmp 63), none⟩]
def c_wicketlaw12_LedgerRoom_S21 : AC :=
  .seq c_wicketlaw12_LedgerRoom_S14 <|
  .block 2 <|
    .loop c_wicketlaw12_LedgerRoom_L20
def c_wicketlaw12_LedgerRoom_S22 : AC :=
  .reg [⟨(some 78), .move (.tmp 6), none⟩,
    ⟨(some 79), .call k_ledger_Ledger_Used [(.tmp 78)], none⟩,
    ⟨(some 80), .move (.tmp 10), none⟩,
    ⟨(some 81), .bin .neq (.tmp 79) (.tmp 80), none⟩,
    ⟨(some 82), .move (.tmp 81), none⟩,
    ⟨(some 83), .move (.tmp 6), some (82, false)⟩,
    ⟨(some 84), .call k_ledger_Ledger_Reserved [(.tmp 83)], some (82, false)⟩,
    ⟨(some 85), .move (.tmp 14), some (82, false)⟩,
    ⟨(some 86), .bin .neq (.tmp 84) (.tmp 85), some (82, false)⟩,
    ⟨(some 87), .pick (.tmp 82) (.const (.bool true)) (.tmp 86), none⟩,
    ⟨(some 88), .move (.tmp 87), none⟩,
    ⟨(some 89), .move (.tmp 10), some (88, false)⟩,
    ⟨(some 90), .move (.tmp 14), some (88, false)⟩,
    ⟨(some 91), .bin .add (.tmp 89) (.tmp 90), some (88, false)⟩,
    ⟨(some 92), .move (.tmp 5), some (88, false)⟩,
    ⟨(some 93), .bin .gtr (.tmp 91) (.tmp 92), some (88, false)⟩,
    ⟨(some 94), .pick (.tmp 88) (.const (.bool true)) (.tmp 93), none⟩]
def c_wicketlaw12_LedgerRoom_S23 : AC :=
  .reg [⟨(some 4), .move (.const (.bool false)), none⟩]
def c_wicketlaw12_LedgerRoom_S24 : AC :=
  .seq c_wicketlaw12_LedgerRoom_S22 <|
  .cond (.tmp 94)
    (.seq c_wicketlaw12_LedgerRoom_S23 <|
    .ret)
    (.skip)
def c_wicketlaw12_LedgerRoom_S25 : AC :=
  .reg [⟨(some 95), .fieldAddr 0 (.tmp 12), none⟩,
    ⟨(some 96), .load false 1 (.tmp 95), none⟩]
def c_wicketlaw12_LedgerRoom_S26 : AC :=
  .reg [⟨(some 98), .bin .eql (.tmp 96) (.const (.int .i64 1)), none⟩,
    ⟨(some 97), .move (.tmp 98), none⟩]
def c_wicketlaw12_LedgerRoom_S27 : AC :=
  .reg [⟨(some 99), .move (.tmp 6), none⟩,
    ⟨(some 100), .fieldAddr 2 (.tmp 12), none⟩,
    ⟨(some 101), .load false 1 (.tmp 100), none⟩,
    ⟨(some 102), .fieldAddr 3 (.tmp 12), none⟩,
    ⟨(some 103), .load false 1 (.tmp 102), none⟩,
    ⟨(some 104), .call k_ledger_Ledger_Reserve [(.tmp 99), (.tmp 101), (.tmp 103)], none⟩,
    ⟨(some 16), .move (.tmp 104), none⟩]
def c_wicketlaw12_LedgerRoom_S28 : AC :=
  .reg [⟨(some 105), .fieldAddr 2 (.tmp 12), none⟩,
    ⟨(some 106), .load false 1 (.tmp 105), none⟩,
    ⟨(some 107), .bin .neq (.tmp 106) (.const (.int .u64 0)), none⟩,
    ⟨(some 108), .move (.tmp 107), none⟩,
    ⟨(some 109), .fieldAddr 3 (.tmp 12), some (108, true)⟩,
    ⟨(some 110), .load false 1 (.tmp 109), some (108, true)⟩,
    ⟨(some 111), .bin .geq (.tmp 110) (.const (.int .i64 1)), some (108, true)⟩,
    ⟨(some 112), .pick (.tmp 108) (.tmp 111) (.const (.bool false)), none⟩,
    ⟨(some 113), .move (.tmp 112), none⟩,
    ⟨(some 114), .move (.tmp 13), some (113, true)⟩,
    ⟨(some 115), .bin .lss (.tmp 114) (.const (.int .i64 0)), some (113, true)⟩,
    ⟨(some 116), .pick (.tmp 113) (.tmp 115) (.const (.bool false)), none⟩,
    ⟨(some 117), .move (.tmp 116), none⟩,
    ⟨(some 118), .fieldAddr 3 (.tmp 12), some (117, true)⟩,
    ⟨(some 119), .load false 1 (.tmp 118), some (117, true)⟩,
    ⟨(some 120), .move (.tmp 5), some (117, true)⟩,
    ⟨(some 121), .move (.tmp 10), some (117, true)⟩,
    ⟨(some 122), .bin .sub (.tmp 120) (.tmp 121), some (117, true)⟩,
    ⟨(some 123), .move (.tmp 14), some (117, true)⟩,
    ⟨(some 124), .bin .sub (.tmp 122) (.tmp 123), some (117, true)⟩,
    ⟨(some 125), .bin .leq (.tmp 119) (.tmp 124), some (117, true)⟩,
    ⟨(some 126), .pick (.tmp 117) (.tmp 125) (.const (.bool false)), none⟩,
    ⟨(some 17), .move (.tmp 126), none⟩]
def c_wicketlaw12_LedgerRoom_S29 : AC :=
  .reg [⟨(some 127), .move (.tmp 16), none⟩,
    ⟨(some 128), .bin .eql (.tmp 127) (.const (.int .i64 0)), none⟩,
    ⟨(some 129), .move (.tmp 17), none⟩,
    ⟨(some 130), .eqv true .bool (.tmp 128) (.tmp 129), none⟩]
def c_wicketlaw12_LedgerRoom_S30 : AC :=
  .reg [⟨(some 4), .move (.const (.bool false)), none⟩]
def c_wicketlaw12_LedgerRoom_S31 : AC :=
  .seq c_wicketlaw12_LedgerRoom_S29 <|
  .cond (.tmp 130)
    (.seq c_wicketlaw12_LedgerRoom_S30 <|
    .ret)
    (.skip)
def c_wicketlaw12_LedgerRoom_S32 : AC :=
  .reg [⟨(some 131), .move (.tmp 17), none⟩]
def c_wicketlaw12_LedgerRoom_S33 : AC :=
  .reg [⟨(some 143), .bin .eql (.tmp 96) (.const (.int .i64 2)), none⟩,
    ⟨(some 142), .move (.tmp 143), none⟩]
def c_wicketlaw12_LedgerRoom_S34 : AC :=
  .reg [⟨(some 144), .move (.tmp 6), none⟩,
    ⟨(some 145), .fieldAddr 2 (.tmp 12), none⟩,
    ⟨(some 146), .load false 1 (.tmp 145), none⟩,
    ⟨(some 147), .call k_ledger_Ledger_Append [(.tmp 144), (.tmp 146)], none⟩,
    ⟨(some 18), .move (.tmp 147), none⟩]
def c_wicketlaw12_LedgerRoom_S35 : AC :=
  .reg [⟨(some 148), .move (.tmp 13), none⟩,
    ⟨(some 149), .bin .geq (.tmp 148) (.const (.int .i64 0)), none⟩,
    ⟨(some 150), .move (.tmp 149), none⟩,
    ⟨(some 151), .move (.tmp 9), some (150, true)⟩,
    ⟨(some 152), .move (.tmp 13), some (150, true)⟩,
    ⟨(some 153), .minmax true [(.tmp 152), (.const (.int .i64 0))], some (150, true)⟩,
    ⟨(some 154), .idxSlice 1 (.tmp 151) (.tmp 153), some (150, true)⟩,
    ⟨(some 155), .load false 1 (.tmp 154), some (150, true)⟩,
    ⟨(some 156), .bin .gtr (.tmp 155) (.const (.int .i64 0)), some (150, true)⟩,
    ⟨(some 157), .pick (.tmp 150) (.tmp 156) (.const (.bool false)), none⟩,
    ⟨(some 19), .move (.tmp 157), none⟩]
def c_wicketlaw12_LedgerRoom_S36 : AC :=
  .reg [⟨(some 158), .move (.tmp 18), none⟩,
    ⟨(some 159), .bin .eql (.tmp 158) (.const (.int .i64 0)), none⟩,
    ⟨(some 160), .move (.tmp 19), none⟩,
    ⟨(some 161), .eqv true .bool (.tmp 159) (.tmp 160), none⟩]
def c_wicketlaw12_LedgerRoom_S37 : AC :=
  .reg [⟨(some 4), .move (.const (.bool false)), none⟩]
def c_wicketlaw12_LedgerRoom_S38 : AC :=
  .seq c_wicketlaw12_LedgerRoom_S36 <|
  .cond (.tmp 161)
    (.seq c_wicketlaw12_LedgerRoom_S37 <|
    .ret)
    (.skip)
def c_wicketlaw12_LedgerRoom_S39 : AC :=
  .reg [⟨(some 162), .move (.tmp 19), none⟩]
def c_wicketlaw12_LedgerRoom_S40 : AC :=
  .reg [⟨(some 163), .move (.tmp 9), none⟩,
    ⟨(some 164), .move (.tmp 13), none⟩,
    ⟨(some 165), .idxSlice 1 (.tmp 163) (.tmp 164), none⟩,
    ⟨(some 166), .load false 1 (.tmp 165), none⟩,
    ⟨(some 167), .bin .sub (.tmp 166) (.const (.int .i64 1)), none⟩,
    ⟨(some 168), .idxSlice 1 (.tmp 163) (.tmp 164), none⟩,
    ⟨none, .store 1 (.tmp 168) (.tmp 167), none⟩]
def c_wicketlaw12_LedgerRoom_S41 : AC :=
  .reg [⟨(some 172), .bin .eql (.tmp 96) (.const (.int .i64 3)), none⟩,
    ⟨(some 171), .move (.tmp 172), none⟩]
def c_wicketlaw12_LedgerRoom_S42 : AC :=
  .reg [⟨(some 173), .move (.tmp 6), none⟩,
    ⟨(some 174), .fieldAddr 2 (.tmp 12), none⟩,
    ⟨(some 175), .load false 1 (.tmp 174), none⟩,
    ⟨(some 176), .call k_ledger_Ledger_Close [(.tmp 173), (.tmp 175)], none⟩,
    ⟨(some 20), .move (.tmp 176), none⟩]
def c_wicketlaw12_LedgerRoom_S43 : AC :=
  .reg [⟨(some 177), .move (.tmp 20), none⟩,
    ⟨(some 178), .bin .eql (.tmp 177) (.const (.int .i64 0)), none⟩,
    ⟨(some 179), .move (.tmp 13), none⟩,
    ⟨(some 180), .bin .geq (.tmp 179) (.const (.int .i64 0)), none⟩,
    ⟨(some 181), .eqv true .bool (.tmp 178) (.tmp 180), none⟩]
def c_wicketlaw12_LedgerRoom_S44 : AC :=
  .reg [⟨(some 4), .move (.const (.bool false)), none⟩]
def c_wicketlaw12_LedgerRoom_S45 : AC :=
  .seq c_wicketlaw12_LedgerRoom_S43 <|
  .cond (.tmp 181)
    (.seq c_wicketlaw12_LedgerRoom_S44 <|
    .ret)
    (.skip)
def c_wicketlaw12_LedgerRoom_S46 : AC :=
  .reg [⟨(some 182), .move (.tmp 13), none⟩,
    ⟨(some 183), .bin .geq (.tmp 182) (.const (.int .i64 0)), none⟩]
def c_wicketlaw12_LedgerRoom_S47 : AC :=
  .regd [⟨0, [], false, ⟨(some 184), .buildSlice 0 1 [] [], none⟩⟩,
    ⟨1, [], false, ⟨(some 185), .move (.tmp 8), none⟩⟩,
    ⟨2, [], false, ⟨(some 186), .move (.tmp 13), none⟩⟩,
    ⟨3, [1, 2], false, ⟨(some 187), .slice 1 (.tmp 185) none (some (.tmp 186)) none, none⟩⟩,
    ⟨5, [], false, ⟨(some 189), .move (.tmp 8), none⟩⟩,
    ⟨6, [], false, ⟨(some 190), .move (.tmp 13), none⟩⟩,
    ⟨7, [6], false, ⟨(some 191), .bin .add (.tmp 190) (.const (.int .i64 1)), none⟩⟩,
    ⟨8, [5, 7, 6], false, ⟨(some 192), .slice 1 (.tmp 189) (some (.tmp 191)) none none, none⟩⟩,
    ⟨4, [0, 3, 1, 2], true, ⟨(some 188), .append 8 1 (.tmp 184) (.tmp 187), none⟩⟩,
    ⟨9, [4, 8, 0, 3, 1, 2, 5, 7, 6], true, ⟨(some 193), .append 8 1 (.tmp 188) (.tmp 192), none⟩⟩,
    ⟨10, [9, 0, 1, 2, 3, 4, 5, 6, 7, 8], true, ⟨(some 8), .move (.tmp 193), none⟩⟩]
def c_wicketlaw12_LedgerRoom_S48 : AC :=
  .reg [⟨(some 205), .bin .eql (.tmp 96) (.const (.int .i64 4)), none⟩,
    ⟨(some 204), .move (.tmp 205), none⟩]
def c_wicketlaw12_LedgerRoom_S49 : AC :=
  .reg [⟨(some 206), .move (.tmp 6), none⟩,
    ⟨(some 207), .fieldAddr 3 (.tmp 12), none⟩,
    ⟨(some 208), .load false 1 (.tmp 207), none⟩,
    ⟨(some 209), .call k_ledger_Ledger_Free [(.tmp 206), (.tmp 208)], none⟩,
    ⟨(some 21), .move (.tmp 209), none⟩]
def c_wicketlaw12_LedgerRoom_S50 : AC :=
  .reg [⟨(some 210), .fieldAddr 3 (.tmp 12), none⟩,
    ⟨(some 211), .load false 1 (.tmp 210), none⟩,
    ⟨(some 212), .bin .geq (.tmp 211) (.const (.int .i64 0)), none⟩,
    ⟨(some 213), .move (.tmp 212), none⟩,
    ⟨(some 214), .fieldAddr 3 (.tmp 12), some (213, true)⟩,
    ⟨(some 215), .load false 1 (.tmp 214), some (213, true)⟩,
    ⟨(some 216), .move (.tmp 10), some (213, true)⟩,
    ⟨(some 217), .bin .leq (.tmp 215) (.tmp 216), some (213, true)⟩,
    ⟨(some 218), .pick (.tmp 213) (.tmp 217) (.const (.bool false)), none⟩,
    ⟨(some 22), .move (.tmp 218), none⟩]
def c_wicketlaw12_LedgerRoom_S51 : AC :=
  .reg [⟨(some 219), .move (.tmp 21), none⟩,
    ⟨(some 220), .bin .eql (.tmp 219) (.const (.int .i64 0)), none⟩,
    ⟨(some 221), .move (.tmp 22), none⟩,
    ⟨(some 222), .eqv true .bool (.tmp 220) (.tmp 221), none⟩]
def c_wicketlaw12_LedgerRoom_S52 : AC :=
  .reg [⟨(some 4), .move (.const (.bool false)), none⟩]
def c_wicketlaw12_LedgerRoom_S53 : AC :=
  .seq c_wicketlaw12_LedgerRoom_S51 <|
  .cond (.tmp 222)
    (.seq c_wicketlaw12_LedgerRoom_S52 <|
    .ret)
    (.skip)
def c_wicketlaw12_LedgerRoom_S54 : AC :=
  .reg [⟨(some 223), .move (.tmp 22), none⟩]
def c_wicketlaw12_LedgerRoom_S55 : AC :=
  .block 1 <|
    .seq c_wicketlaw12_LedgerRoom_S12 <|
    .seq c_wicketlaw12_LedgerRoom_S13 <|
    .seq c_wicketlaw12_LedgerRoom_S21 <|
    .seq c_wicketlaw12_LedgerRoom_S24 <|
    .seq c_wicketlaw12_LedgerRoom_S25 <|
    .block 4 <|
      .seq c_wicketlaw12_LedgerRoom_S26 <|
      .cond (.tmp 97)
        (.seq c_wicketlaw12_LedgerRoom_S27 <|
        .seq c_wicketlaw12_LedgerRoom_S28 <|
        .seq c_wicketlaw12_LedgerRoom_S31 <|
        .seq c_wicketlaw12_LedgerRoom_S32 <|
        .cond (.tmp 131)
          (.regd [⟨0, [], false, ⟨(some 132), .move (.tmp 8), none⟩⟩,
            ⟨1, [], false, ⟨(some 133), .fieldAddr 2 (.tmp 12), none⟩⟩,
            ⟨2, [1], false, ⟨(some 134), .load false 1 (.tmp 133), none⟩⟩,
            ⟨3, [2, 1], false, ⟨(some 135), .buildSlice 1 1 [(.int .u64 0)] [(0, 1, (.tmp 134))], none⟩⟩,
            ⟨5, [], false, ⟨(some 137), .move (.tmp 9), none⟩⟩,
            ⟨6, [], false, ⟨(some 138), .fieldAddr 3 (.tmp 12), none⟩⟩,
            ⟨7, [6], false, ⟨(some 139), .load false 1 (.tmp 138), none⟩⟩,
            ⟨8, [7, 6], false, ⟨(some 140), .buildSlice 1 1 [(.int .i64 0)] [(0, 1, (.tmp 139))], none⟩⟩,
            ⟨4, [0, 3, 2, 1], true, ⟨(some 136), .append 8 1 (.tmp 132) (.tmp 135), none⟩⟩,
            ⟨9, [5, 8, 4, 7, 6, 0, 3, 2, 1], true, ⟨(some 141), .append 8 1 (.tmp 137) (.tmp 140), none⟩⟩,
            ⟨10, [4, 9, 0, 1, 2, 3, 5, 8, 7, 6], true, ⟨(some 8), .move (.tmp 136), none⟩⟩,
            ⟨11, [9, 10, 0, 1, 2, 3, 4, 5, 6, 7, 8], true, ⟨(some 9), .move (.tmp 141), none⟩⟩])
          (.skip))
        (.seq c_wicketlaw12_LedgerRoom_S33 <|
        .cond (.tmp 142)
          (.seq c_wicketlaw12_LedgerRoom_S34 <|
          .seq c_wicketlaw12_LedgerRoom_S35 <|
          .seq c_wicketlaw12_LedgerRoom_S38 <|
          .seq c_wicketlaw12_LedgerRoom_S39 <|
          .cond (.tmp 162)
            (.seq c_wicketlaw12_LedgerRoom_S40 <|
            .reg [⟨(some 169), .move (.tmp 10), none⟩,
              ⟨(some 170), .bin .add (.tmp 169) (.const (.int .i64 1)), none⟩,
              ⟨(some 10), .move (.tmp 170), none⟩])
            (.skip))
          (.seq c_wicketlaw12_LedgerRoom_S41 <|
          .cond (.tmp 171)
            (.seq c_wicketlaw12_LedgerRoom_S42 <|
            .seq c_wicketlaw12_LedgerRoom_S45 <|
            .seq c_wicketlaw12_LedgerRoom_S46 <|
            .cond (.tmp 183)
              (.seq c_wicketlaw12_LedgerRoom_S47 <|
              .regd [⟨0, [], false, ⟨(some 194), .buildSlice 0 1 [] [], none⟩⟩,
                ⟨1, [], false, ⟨(some 195), .move (.tmp 9), none⟩⟩,
                ⟨2, [], false, ⟨(some 196), .move (.tmp 13), none⟩⟩,
                ⟨3, [1, 2], false, ⟨(some 197), .slice 1 (.tmp 195) none (some (.tmp 196)) none, none⟩⟩,
                ⟨5, [], false, ⟨(some 199), .move (.tmp 9), none⟩⟩,
                ⟨6, [], false, ⟨(some 200), .move (.tmp 13), none⟩⟩,
                ⟨7, [6], false, ⟨(some 201), .bin .add (.tmp 200) (.const (.int .i64 1)), none⟩⟩,
                ⟨8, [5, 7, 6], false, ⟨(some 202), .slice 1 (.tmp 199) (some (.tmp 201)) none none, none⟩⟩,
                ⟨4, [0, 3, 1, 2], true, ⟨(some 198), .append 8 1 (.tmp 194) (.tmp 197), none⟩⟩,
                ⟨9, [4, 8, 0, 3, 1, 2, 5, 7, 6], true, ⟨(some 203), .append 8 1 (.tmp 198) (.tmp 202), none⟩⟩,
                ⟨10, [9, 0, 1, 2, 3, 4, 5, 6, 7, 8], true, ⟨(some 9), .move (.tmp 203), none⟩⟩])
              (.skip))
            (.seq c_wicketlaw12_LedgerRoom_S48 <|
            .cond (.tmp 204)
              (.seq c_wicketlaw12_LedgerRoom_S49 <|
              .seq c_wicketlaw12_LedgerRoom_S50 <|
              .seq c_wicketlaw12_LedgerRoom_S53 <|
              .seq c_wicketlaw12_LedgerRoom_S54 <|
              .cond (.tmp 223)
                (.reg [⟨(some 224), .move (.tmp 10), none⟩,
                  ⟨(some 225), .fieldAddr 3 (.tmp 12), none⟩,
                  ⟨(some 226), .load false 1 (.tmp 225), none⟩,
                  ⟨(some 227), .bin .sub (.tmp 224) (.tmp 226), none⟩,
                  ⟨(some 10), .move (.tmp 227), none⟩])
                (.skip))
              (.skip))))
def c_wicketlaw12_LedgerRoom_L56 : AC :=
  .seq c_wicketlaw12_LedgerRoom_S11 <|
  .seq c_wicketlaw12_LedgerRoom_S55 <|
  .reg [⟨(some 52), .move (.tmp 11), none⟩,
    ⟨(some 53), .bin .add (.tmp 52) (.const (.int .i64 1)), none⟩,
    ⟨(some 11), .move (.tmp 53), none⟩]
def c_wicketlaw12_LedgerRoom_S57 : AC :=
  .seq c_wicketlaw12_LedgerRoom_S9 <|
  .block 0 <|
    .loop c_wicketlaw12_LedgerRoom_L56
def c_wicketlaw12_LedgerRoom_S58 : AC :=
  .reg [⟨(some 4), .move (.const (.bool true)), none⟩]
def c_wicketlaw12_LedgerRoom : AFun := ⟨[.tmp 4],
  .seq c_wicketlaw12_LedgerRoom_S0 <|
  .seq c_wicketlaw12_LedgerRoom_S1 <|
  .seq c_wicketlaw12_LedgerRoom_S2 <|
  .seq c_wicketlaw12_LedgerRoom_S5 <|
  .seq c_wicketlaw12_LedgerRoom_S6 <|
  .seq c_wicketlaw12_LedgerRoom_S7 <|
  .seq c_wicketlaw12_LedgerRoom_S8 <|
  .seq c_wicketlaw12_LedgerRoom_S57 <|
  .seq c_wicketlaw12_LedgerRoom_S58 <|
  .ret, none⟩
-- f4: wicket/ledger.New
def c_ledger_New : AFun := ⟨[.tmp 4, .tmp 5],
  .seq (.reg [⟨(some 4), .move (.const (.pointer none)), none⟩,
      ⟨(some 5), .move (.const (.int .i64 0)), none⟩]) <|
  .seq (.seq (.reg [⟨(some 6), .move (.tmp 0), none⟩,
        ⟨(some 7), .bin .lss (.tmp 6) (.const (.int .i64 2)), none⟩,
        ⟨(some 8), .move (.tmp 7), none⟩,
        ⟨(some 9), .move (.tmp 0), some (8, false)⟩,
        ⟨(some 10), .bin .gtr (.tmp 9) (.const (.int .i64 64)), some (8, false)⟩,
        ⟨(some 11), .pick (.tmp 8) (.const (.bool true)) (.tmp 10), none⟩,
        ⟨(some 12), .move (.tmp 11), none⟩,
        ⟨(some 13), .move (.tmp 1), some (12, false)⟩,
        ⟨(some 14), .bin .lss (.tmp 13) (.const (.int .i64 1)), some (12, false)⟩,
        ⟨(some 15), .pick (.tmp 12) (.const (.bool true)) (.tmp 14), none⟩,
        ⟨(some 16), .move (.tmp 15), none⟩,
        ⟨(some 17), .move (.tmp 1), some (16, false)⟩,
        ⟨(some 18), .move (.tmp 0), some (16, false)⟩,
        ⟨(some 19), .bin .gtr (.tmp 17) (.tmp 18), some (16, false)⟩,
        ⟨(some 20), .pick (.tmp 16) (.const (.bool true)) (.tmp 19), none⟩]) <|
    .cond (.tmp 20)
      (.seq (.reg [⟨(some 4), .move (.const (.pointer none)), none⟩,
          ⟨(some 5), .move (.const (.int .i64 2)), none⟩]) <|
      .ret)
      (.skip)) <|
  .seq (.reg [⟨(some 21), .move (.tmp 0), none⟩,
      ⟨(some 22), .move (.tmp 1), none⟩,
      ⟨(some 23), .makeMap, none⟩,
      ⟨(some 24), .build [(.int .i64 0), (.int .i64 0), (.int .i64 0), (.int .i64 0), (.map none)] [(0, 1, (.tmp 21)), (1, 1, (.tmp 22)), (4, 1, (.tmp 23))], none⟩,
      ⟨(some 25), .box (.tmp 24), none⟩,
      ⟨(some 4), .move (.tmp 25), none⟩,
      ⟨(some 5), .move (.const (.int .i64 0)), none⟩]) <|
  .ret, none⟩
-- f5: wicket/wicketlaw12.awake
def c_wicketlaw12_awake : AFun := ⟨[.tmp 0],
  .seq (.reg [⟨(some 0), .move (.const (.bool false)), none⟩]) <|
  .seq (.reg [⟨(some 12), .call k_ledger_New [(.const (.int .i64 4)), (.const (.int .i64 3))], none⟩,
      ⟨(some 11), .move (.tmp 12), none⟩,
      ⟨(some 13), .extract (.tmp 11) 0, none⟩,
      ⟨(some 14), .extract (.tmp 11) 1, none⟩,
      ⟨(some 1), .move (.tmp 13), none⟩,
      ⟨(some 2), .move (.tmp 14), none⟩]) <|
  .seq (.seq (.reg [⟨(some 15), .move (.const (.bool false)), none⟩,
        ⟨(some 16), .move (.tmp 2), some (15, false)⟩,
        ⟨(some 17), .bin .neq (.tmp 16) (.const (.int .i64 0)), some (15, false)⟩,
        ⟨(some 18), .pick (.tmp 15) (.const (.bool true)) (.tmp 17), none⟩,
        ⟨(some 19), .move (.tmp 18), none⟩,
        ⟨(some 20), .move (.tmp 1), some (19, false)⟩,
        ⟨(some 21), .eqv false .ptr (.tmp 20) (.const (.pointer none)), some (19, false)⟩,
        ⟨(some 22), .pick (.tmp 19) (.const (.bool true)) (.tmp 21), none⟩,
        ⟨(some 23), .move (.tmp 22), none⟩,
        ⟨(some 24), .move (.tmp 1), some (23, false)⟩,
        ⟨(some 25), .call k_ledger_Ledger_Fits [(.tmp 24), (.const (.int .i64 4))], some (23, false)⟩,
        ⟨(some 26), .un .not (.tmp 25), some (23, false)⟩,
        ⟨(some 27), .pick (.tmp 23) (.const (.bool true)) (.tmp 26), none⟩,
        ⟨(some 28), .move (.tmp 27), none⟩,
        ⟨(some 29), .move (.tmp 1), some (28, false)⟩,
        ⟨(some 30), .call k_ledger_Ledger_Fits [(.tmp 29), (.const (.int .i64 5))], some (28, false)⟩,
        ⟨(some 31), .pick (.tmp 28) (.const (.bool true)) (.tmp 30), none⟩]) <|
    .cond (.tmp 31)
      (.seq (.reg [⟨(some 0), .move (.const (.bool false)), none⟩]) <|
      .ret)
      (.skip)) <|
  .seq (.reg [⟨(some 32), .move (.tmp 1), none⟩,
      ⟨(some 33), .call k_ledger_Ledger_Reserve [(.tmp 32), (.const (.int .u64 7)), (.const (.int .i64 3))], none⟩,
      ⟨(some 34), .move (.tmp 1), none⟩,
      ⟨(some 35), .call k_ledger_Ledger_Reserve [(.tmp 34), (.const (.int .u64 7)), (.const (.int .i64 1))], none⟩,
      ⟨(some 36), .move (.tmp 1), none⟩,
      ⟨(some 37), .call k_ledger_Ledger_Reserve [(.tmp 36), (.const (.int .u64 8)), (.const (.int .i64 2))], none⟩,
      ⟨(some 3), .move (.tmp 33), none⟩,
      ⟨(some 4), .move (.tmp 35), none⟩,
      ⟨(some 5), .move (.tmp 37), none⟩]) <|
  .seq (.reg [⟨(some 38), .move (.tmp 1), none⟩,
      ⟨(some 39), .call k_ledger_Ledger_Append [(.tmp 38), (.const (.int .u64 7))], none⟩,
      ⟨(some 40), .move (.tmp 1), none⟩,
      ⟨(some 41), .call k_ledger_Ledger_Append [(.tmp 40), (.const (.int .u64 7))], none⟩,
      ⟨(some 42), .move (.tmp 1), none⟩,
      ⟨(some 43), .call k_ledger_Ledger_Append [(.tmp 42), (.const (.int .u64 9))], none⟩,
      ⟨(some 6), .move (.tmp 39), none⟩,
      ⟨(some 7), .move (.tmp 41), none⟩,
      ⟨(some 8), .move (.tmp 43), none⟩]) <|
  .seq (.reg [⟨(some 45), .move (.tmp 1), none⟩,
      ⟨(some 46), .call k_ledger_Ledger_Left [(.tmp 45), (.const (.int .u64 7))], none⟩,
      ⟨(some 44), .move (.tmp 46), none⟩,
      ⟨(some 47), .extract (.tmp 44) 0, none⟩,
      ⟨(some 48), .extract (.tmp 44) 1, none⟩,
      ⟨(some 9), .move (.tmp 47), none⟩,
      ⟨(some 10), .move (.tmp 48), none⟩]) <|
  .seq (.reg [⟨(some 49), .move (.tmp 3), none⟩,
      ⟨(some 50), .bin .eql (.tmp 49) (.const (.int .i64 0)), none⟩,
      ⟨(some 51), .move (.tmp 50), none⟩,
      ⟨(some 52), .move (.tmp 4), some (51, true)⟩,
      ⟨(some 53), .bin .eql (.tmp 52) (.const (.int .i64 110)), some (51, true)⟩,
      ⟨(some 54), .pick (.tmp 51) (.tmp 53) (.const (.bool false)), none⟩,
      ⟨(some 55), .move (.tmp 54), none⟩,
      ⟨(some 56), .move (.tmp 5), some (55, true)⟩,
      ⟨(some 57), .bin .eql (.tmp 56) (.const (.int .i64 120)), some (55, true)⟩,
      ⟨(some 58), .pick (.tmp 55) (.tmp 57) (.const (.bool false)), none⟩,
      ⟨(some 59), .move (.tmp 58), none⟩,
      ⟨(some 60), .move (.tmp 6), some (59, true)⟩,
      ⟨(some 61), .bin .eql (.tmp 60) (.const (.int .i64 0)), some (59, true)⟩,
      ⟨(some 62), .pick (.tmp 59) (.tmp 61) (.const (.bool false)), none⟩,
      ⟨(some 63), .move (.tmp 62), none⟩,
      ⟨(some 64), .move (.tmp 7), some (63, true)⟩,
      ⟨(some 65), .bin .eql (.tmp 64) (.const (.int .i64 0)), some (63, true)⟩,
      ⟨(some 66), .pick (.tmp 63) (.tmp 65) (.const (.bool false)), none⟩,
      ⟨(some 67), .move (.tmp 66), none⟩,
      ⟨(some 68), .move (.tmp 8), some (67, true)⟩,
      ⟨(some 69), .bin .eql (.tmp 68) (.const (.int .i64 110)), some (67, true)⟩,
      ⟨(some 70), .pick (.tmp 67) (.tmp 69) (.const (.bool false)), none⟩,
      ⟨(some 71), .move (.tmp 70), none⟩,
      ⟨(some 72), .move (.tmp 1), some (71, true)⟩,
      ⟨(some 73), .call k_ledger_Ledger_Used [(.tmp 72)], some (71, true)⟩,
      ⟨(some 74), .bin .eql (.tmp 73) (.const (.int .i64 2)), some (71, true)⟩,
      ⟨(some 75), .pick (.tmp 71) (.tmp 74) (.const (.bool false)), none⟩,
      ⟨(some 76), .move (.tmp 75), none⟩,
      ⟨(some 77), .move (.tmp 1), some (76, true)⟩,
      ⟨(some 78), .call k_ledger_Ledger_Reserved [(.tmp 77)], some (76, true)⟩,
      ⟨(some 79), .bin .eql (.tmp 78) (.const (.int .i64 1)), some (76, true)⟩,
      ⟨(some 80), .pick (.tmp 76) (.tmp 79) (.const (.bool false)), none⟩,
      ⟨(some 81), .move (.tmp 80), none⟩,
      ⟨(some 82), .move (.tmp 9), some (81, true)⟩,
      ⟨(some 83), .bin .eql (.tmp 82) (.const (.int .i64 1)), some (81, true)⟩,
      ⟨(some 84), .pick (.tmp 81) (.tmp 83) (.const (.bool false)), none⟩,
      ⟨(some 85), .move (.tmp 84), none⟩,
      ⟨(some 86), .move (.tmp 10), some (85, true)⟩,
      ⟨(some 87), .pick (.tmp 85) (.tmp 86) (.const (.bool false)), none⟩,
      ⟨(some 88), .move (.tmp 87), none⟩,
      ⟨(some 89), .move (.tmp 1), some (88, true)⟩,
      ⟨(some 90), .call k_ledger_Ledger_Marked [(.tmp 89)], some (88, true)⟩,
      ⟨(some 91), .un .not (.tmp 90), some (88, true)⟩,
      ⟨(some 92), .pick (.tmp 88) (.tmp 91) (.const (.bool false)), none⟩,
      ⟨(some 0), .move (.tmp 92), none⟩]) <|
  .ret, none⟩
-- f6: (*wicket/ledger.Ledger).Used
def c_ledger_Ledger_Used : AFun := ⟨[.tmp 2],
  .seq (.reg [⟨(some 2), .move (.const (.int .i64 0)), none⟩]) <|
  .seq (.seq (.reg [⟨(some 3), .move (.tmp 0), none⟩,
        ⟨(some 4), .eqv false .ptr (.tmp 3) (.const (.pointer none)), none⟩]) <|
    .cond (.tmp 4)
      (.seq (.reg [⟨(some 2), .move (.const (.int .i64 0)), none⟩]) <|
      .ret)
      (.skip)) <|
  .seq (.reg [⟨(some 5), .move (.tmp 0), none⟩,
      ⟨(some 6), .nilCheck (.tmp 5), none⟩,
      ⟨(some 7), .fieldAddr 2 (.tmp 6), none⟩,
      ⟨(some 8), .load false 1 (.tmp 7), none⟩,
      ⟨(some 2), .move (.tmp 8), none⟩]) <|
  .ret, none⟩
-- f7: (*wicket/ledger.Ledger).Reserved
def c_ledger_Ledger_Reserved : AFun := ⟨[.tmp 2],
  .seq (.reg [⟨(some 2), .move (.const (.int .i64 0)), none⟩]) <|
  .seq (.seq (.reg [⟨(some 3), .move (.tmp 0), none⟩,
        ⟨(some 4), .eqv false .ptr (.tmp 3) (.const (.pointer none)), none⟩]) <|
    .cond (.tmp 4)
      (.seq (.reg [⟨(some 2), .move (.const (.int .i64 0)), none⟩]) <|
      .ret)
      (.skip)) <|
  .seq (.reg [⟨(some 5), .move (.tmp 0), none⟩,
      ⟨(some 6), .nilCheck (.tmp 5), none⟩,
      ⟨(some 7), .fieldAddr 3 (.tmp 6), none⟩,
      ⟨(some 8), .load false 1 (.tmp 7), none⟩,
      ⟨(some 2), .move (.tmp 8), none⟩]) <|
  .ret, none⟩
-- f8: (*wicket/ledger.Ledger).Reserve
def c_ledger_Ledger_Reserve : AFun := ⟨[.tmp 6],
  .seq (.reg [⟨(some 6), .move (.const (.int .i64 0)), none⟩]) <|
  .seq (.block 0 <|
      .seq (.reg [⟨(some 8), .move (.tmp 0), none⟩,
          ⟨(some 9), .eqv false .ptr (.tmp 8) (.const (.pointer none)), none⟩,
          ⟨(some 7), .move (.tmp 9), none⟩]) <|
      .cond (.tmp 7)
        (.seq (.reg [⟨(some 6), .move (.const (.int .i64 1)), none⟩]) <|
        .ret)
        (.seq (.reg [⟨(some 11), .move (.tmp 1), none⟩,
            ⟨(some 12), .bin .eql (.tmp 11) (.const (.int .u64 0)), none⟩,
            ⟨(some 13), .move (.tmp 12), none⟩,
            ⟨(some 14), .move (.tmp 2), some (13, false)⟩,
            ⟨(some 15), .bin .lss (.tmp 14) (.const (.int .i64 1)), some (13, false)⟩,
            ⟨(some 16), .pick (.tmp 13) (.const (.bool true)) (.tmp 15), none⟩,
            ⟨(some 10), .move (.tmp 16), none⟩]) <|
        .cond (.tmp 10)
          (.seq (.reg [⟨(some 6), .move (.const (.int .i64 2)), none⟩]) <|
          .ret)
          (.seq (.reg [⟨(some 18), .move (.tmp 0), none⟩,
              ⟨(some 19), .move (.tmp 1), none⟩,
              ⟨(some 20), .call k_ledger_Ledger_has [(.tmp 18), (.tmp 19)], none⟩,
              ⟨(some 17), .move (.tmp 20), none⟩]) <|
          .cond (.tmp 17)
            (.seq (.reg [⟨(some 6), .move (.const (.int .i64 110)), none⟩]) <|
            .ret)
            (.seq (.reg [⟨(some 22), .move (.tmp 0), none⟩,
                ⟨(some 23), .move (.tmp 2), none⟩,
                ⟨(some 24), .call k_ledger_Ledger_Fits [(.tmp 22), (.tmp 23)], none⟩,
                ⟨(some 25), .un .not (.tmp 24), none⟩,
                ⟨(some 21), .move (.tmp 25), none⟩]) <|
            .cond (.tmp 21)
              (.seq (.reg [⟨(some 6), .move (.const (.int .i64 120)), none⟩]) <|
              .ret)
              (.skip))))) <|
  .seq (.reg [⟨(some 26), .move (.tmp 0), none⟩,
      ⟨(some 27), .nilCheck (.tmp 26), none⟩,
      ⟨(some 28), .fieldAddr 4 (.tmp 27), none⟩,
      ⟨(some 29), .load false 1 (.tmp 28), none⟩,
      ⟨(some 30), .move (.tmp 1), none⟩,
      ⟨(some 31), .move (.tmp 2), none⟩,
      ⟨none, .mapUpdate .u64 (.tmp 29) (.tmp 30) (.tmp 31), none⟩]) <|
  .seq (.reg [⟨(some 32), .move (.tmp 0), none⟩,
      ⟨(some 33), .nilCheck (.tmp 32), none⟩,
      ⟨(some 34), .fieldAddr 3 (.tmp 33), none⟩,
      ⟨(some 35), .load false 1 (.tmp 34), none⟩,
      ⟨(some 36), .move (.tmp 2), none⟩,
      ⟨(some 37), .bin .add (.tmp 35) (.tmp 36), none⟩,
      ⟨(some 38), .nilCheck (.tmp 32), none⟩,
      ⟨(some 39), .fieldAddr 3 (.tmp 38), none⟩,
      ⟨none, .store 1 (.tmp 39) (.tmp 37), none⟩]) <|
  .seq (.reg [⟨(some 6), .move (.const (.int .i64 0)), none⟩]) <|
  .ret, none⟩
-- f9: (*wicket/ledger.Ledger).Append
def c_ledger_Ledger_Append : AFun := ⟨[.tmp 4],
  .seq (.reg [⟨(some 4), .move (.const (.int .i64 0)), none⟩]) <|
  .seq (.block 0 <|
      .seq (.reg [⟨(some 6), .move (.tmp 0), none⟩,
          ⟨(some 7), .eqv false .ptr (.tmp 6) (.const (.pointer none)), none⟩,
          ⟨(some 5), .move (.tmp 7), none⟩]) <|
      .cond (.tmp 5)
        (.seq (.reg [⟨(some 4), .move (.const (.int .i64 1)), none⟩]) <|
        .ret)
        (.seq (.reg [⟨(some 9), .move (.tmp 0), none⟩,
            ⟨(some 10), .move (.tmp 1), none⟩,
            ⟨(some 11), .call k_ledger_Ledger_has [(.tmp 9), (.tmp 10)], none⟩,
            ⟨(some 12), .un .not (.tmp 11), none⟩,
            ⟨(some 8), .move (.tmp 12), none⟩]) <|
        .cond (.tmp 8)
          (.seq (.reg [⟨(some 4), .move (.const (.int .i64 110)), none⟩]) <|
          .ret)
          (.seq (.reg [⟨(some 14), .move (.tmp 0), none⟩,
              ⟨(some 15), .nilCheck (.tmp 14), none⟩,
              ⟨(some 16), .fieldAddr 4 (.tmp 15), none⟩,
              ⟨(some 17), .load false 1 (.tmp 16), none⟩,
              ⟨(some 18), .move (.tmp 1), none⟩,
              ⟨(some 19), .lookup .u64 (.int .i64 0) (.tmp 17) (.tmp 18) false, none⟩,
              ⟨(some 20), .bin .eql (.tmp 19) (.const (.int .i64 0)), none⟩,
              ⟨(some 13), .move (.tmp 20), none⟩]) <|
          .cond (.tmp 13)
            (.seq (.reg [⟨(some 4), .move (.const (.int .i64 120)), none⟩]) <|
            .ret)
            (.skip)))) <|
  .seq (.reg [⟨(some 21), .move (.tmp 0), none⟩,
      ⟨(some 22), .nilCheck (.tmp 21), none⟩,
      ⟨(some 23), .fieldAddr 4 (.tmp 22), none⟩,
      ⟨(some 24), .load false 1 (.tmp 23), none⟩,
      ⟨(some 25), .move (.tmp 1), none⟩,
      ⟨(some 26), .lookup .u64 (.int .i64 0) (.tmp 24) (.tmp 25) false, none⟩,
      ⟨(some 27), .bin .sub (.tmp 26) (.const (.int .i64 1)), none⟩,
      ⟨none, .mapUpdate .u64 (.tmp 24) (.tmp 25) (.tmp 27), none⟩]) <|
  .seq (.reg [⟨(some 28), .move (.tmp 0), none⟩,
      ⟨(some 29), .nilCheck (.tmp 28), none⟩,
      ⟨(some 30), .fieldAddr 3 (.tmp 29), none⟩,
      ⟨(some 31), .load false 1 (.tmp 30), none⟩,
      ⟨(some 32), .bin .sub (.tmp 31) (.const (.int .i64 1)), none⟩,
      ⟨(some 33), .nilCheck (.tmp 28), none⟩,
      ⟨(some 34), .fieldAddr 3 (.tmp 33), none⟩,
      ⟨none, .store 1 (.tmp 34) (.tmp 32), none⟩]) <|
  .seq (.reg [⟨(some 35), .move (.tmp 0), none⟩,
      ⟨(some 36), .nilCheck (.tmp 35), none⟩,
      ⟨(some 37), .fieldAddr 2 (.tmp 36), none⟩,
      ⟨(some 38), .load false 1 (.tmp 37), none⟩,
      ⟨(some 39), .bin .add (.tmp 38) (.const (.int .i64 1)), none⟩,
      ⟨(some 40), .nilCheck (.tmp 35), none⟩,
      ⟨(some 41), .fieldAddr 2 (.tmp 40), none⟩,
      ⟨none, .store 1 (.tmp 41) (.tmp 39), none⟩]) <|
  .seq (.reg [⟨(some 4), .move (.const (.int .i64 0)), none⟩]) <|
  .ret, none⟩
-- f10: (*wicket/ledger.Ledger).Close
def c_ledger_Ledger_Close : AFun := ⟨[.tmp 4],
  .seq (.reg [⟨(some 4), .move (.const (.int .i64 0)), none⟩]) <|
  .seq (.block 0 <|
      .seq (.reg [⟨(some 6), .move (.tmp 0), none⟩,
          ⟨(some 7), .eqv false .ptr (.tmp 6) (.const (.pointer none)), none⟩,
          ⟨(some 5), .move (.tmp 7), none⟩]) <|
      .cond (.tmp 5)
        (.seq (.reg [⟨(some 4), .move (.const (.int .i64 1)), none⟩]) <|
        .ret)
        (.seq (.reg [⟨(some 9), .move (.tmp 0), none⟩,
            ⟨(some 10), .move (.tmp 1), none⟩,
            ⟨(some 11), .call k_ledger_Ledger_has [(.tmp 9), (.tmp 10)], none⟩,
            ⟨(some 12), .un .not (.tmp 11), none⟩,
            ⟨(some 8), .move (.tmp 12), none⟩]) <|
        .cond (.tmp 8)
          (.seq (.reg [⟨(some 4), .move (.const (.int .i64 110)), none⟩]) <|
          .ret)
          (.skip))) <|
  .seq (.regd [⟨0, [], false, ⟨(some 13), .move (.tmp 0), none⟩⟩,
      ⟨1, [0], false, ⟨(some 14), .nilCheck (.tmp 13), none⟩⟩,
      ⟨2, [1, 0], false, ⟨(some 15), .fieldAddr 3 (.tmp 14), none⟩⟩,
      ⟨3, [2, 1, 0], false, ⟨(some 16), .load false 1 (.tmp 15), none⟩⟩,
      ⟨4, [], false, ⟨(some 17), .move (.tmp 0), none⟩⟩,
      ⟨5, [4], false, ⟨(some 18), .nilCheck (.tmp 17), none⟩⟩,
      ⟨6, [5, 4], false, ⟨(some 19), .fieldAddr 4 (.tmp 18), none⟩⟩,
      ⟨7, [6, 5, 4], false, ⟨(some 20), .load false 1 (.tmp 19), none⟩⟩,
      ⟨8, [], false, ⟨(some 21), .move (.tmp 1), none⟩⟩,
      ⟨9, [7, 8, 6, 5, 4], false, ⟨(some 22), .lookup .u64 (.int .i64 0) (.tmp 20) (.tmp 21) false, none⟩⟩,
      ⟨10, [3, 9, 2, 1, 0, 7, 8, 6, 5, 4], false, ⟨(some 23), .bin .sub (.tmp 16) (.tmp 22), none⟩⟩,
      ⟨11, [0, 1, 2, 3, 4, 5, 6, 7, 8, 9, 10], false, ⟨(some 24), .nilCheck (.tmp 13), none⟩⟩,
      ⟨12, [11, 0, 1, 2, 3, 4, 5, 6, 7, 8, 9, 10], false, ⟨(some 25), .fieldAddr 3 (.tmp 24), none⟩⟩,
      ⟨13, [12, 10, 0, 1, 2, 3, 4, 5, 6, 7, 8, 9, 11], true, ⟨none, .store 1 (.tmp 25) (.tmp 23), none⟩⟩]) <|
  .seq (.reg [⟨(some 26), .move (.tmp 0), none⟩,
      ⟨(some 27), .nilCheck (.tmp 26), none⟩,
      ⟨(some 28), .fieldAddr 4 (.tmp 27), none⟩,
      ⟨(some 29), .load false 1 (.tmp 28), none⟩,
      ⟨(some 30), .move (.tmp 1), none⟩,
      ⟨none, .delete .u64 (.tmp 29) (.tmp 30), none⟩]) <|
  .seq (.reg [⟨(some 4), .move (.const (.int .i64 0)), none⟩]) <|
  .ret, none⟩
-- f11: (*wicket/ledger.Ledger).Free
def c_ledger_Ledger_Free : AFun := ⟨[.tmp 4],
  .seq (.reg [⟨(some 4), .move (.const (.int .i64 0)), none⟩]) <|
  .seq (.block 0 <|
      .seq (.reg [⟨(some 6), .move (.tmp 0), none⟩,
          ⟨(some 7), .eqv false .ptr (.tmp 6) (.const (.pointer none)), none⟩,
          ⟨(some 5), .move (.tmp 7), none⟩]) <|
      .cond (.tmp 5)
        (.seq (.reg [⟨(some 4), .move (.const (.int .i64 1)), none⟩]) <|
        .ret)
        (.seq (.reg [⟨(some 9), .move (.tmp 1), none⟩,
            ⟨(some 10), .bin .lss (.tmp 9) (.const (.int .i64 0)), none⟩,
            ⟨(some 11), .move (.tmp 10), none⟩,
            ⟨(some 12), .move (.tmp 1), some (11, false)⟩,
            ⟨(some 13), .move (.tmp 0), some (11, false)⟩,
            ⟨(some 14), .nilCheck (.tmp 13), some (11, false)⟩,
            ⟨(some 15), .fieldAddr 2 (.tmp 14), some (11, false)⟩,
            ⟨(some 16), .load false 1 (.tmp 15), some (11, false)⟩,
            ⟨(some 17), .bin .gtr (.tmp 12) (.tmp 16), some (11, false)⟩,
            ⟨(some 18), .pick (.tmp 11) (.const (.bool true)) (.tmp 17), none⟩,
            ⟨(some 8), .move (.tmp 18), none⟩]) <|
        .cond (.tmp 8)
          (.seq (.reg [⟨(some 4), .move (.const (.int .i64 2)), none⟩]) <|
          .ret)
          (.skip))) <|
  .seq (.reg [⟨(some 19), .move (.tmp 0), none⟩,
      ⟨(some 20), .nilCheck (.tmp 19), none⟩,
      ⟨(some 21), .fieldAddr 2 (.tmp 20), none⟩,
      ⟨(some 22), .load false 1 (.tmp 21), none⟩,
      ⟨(some 23), .move (.tmp 1), none⟩,
      ⟨(some 24), .bin .sub (.tmp 22) (.tmp 23), none⟩,
      ⟨(some 25), .nilCheck (.tmp 19), none⟩,
      ⟨(some 26), .fieldAddr 2 (.tmp 25), none⟩,
      ⟨none, .store 1 (.tmp 26) (.tmp 24), none⟩]) <|
  .seq (.reg [⟨(some 4), .move (.const (.int .i64 0)), none⟩]) <|
  .ret, none⟩
-- f12: (*wicket/ledger.Ledger).Fits
def c_ledger_Ledger_Fits : AFun := ⟨[.tmp 4],
  .seq (.reg [⟨(some 4), .move (.const (.bool false)), none⟩]) <|
  .seq (.regd [⟨0, [], false, ⟨(some 5), .move (.tmp 0), none⟩⟩,
      ⟨1, [0], false, ⟨(some 6), .eqv true .ptr (.tmp 5) (.const (.pointer none)), none⟩⟩,
      ⟨2, [1, 0], false, ⟨(some 7), .move (.tmp 6), none⟩⟩,
      ⟨3, [2, 1, 0], false, ⟨(some 8), .move (.tmp 1), some (7, true)⟩⟩,
      ⟨4, [3, 2, 1, 0], false, ⟨(some 9), .bin .geq (.tmp 8) (.const (.int .i64 1)), some (7, true)⟩⟩,
      ⟨5, [2, 4, 1, 0, 3], false, ⟨(some 10), .pick (.tmp 7) (.tmp 9) (.const (.bool false)), none⟩⟩,
      ⟨6, [5, 2, 4, 1, 0, 3], false, ⟨(some 11), .move (.tmp 10), none⟩⟩,
      ⟨7, [6, 5, 2, 4, 1, 0, 3], false, ⟨(some 12), .move (.tmp 1), some (11, true)⟩⟩,
      ⟨8, [6, 5, 2, 4, 1, 0, 3], false, ⟨(some 13), .move (.tmp 0), some (11, true)⟩⟩,
      ⟨9, [8, 6, 5, 2, 4, 1, 0, 3], false, ⟨(some 14), .nilCheck (.tmp 13), some (11, true)⟩⟩,
      ⟨10, [9, 6, 8, 5, 2, 4, 1, 0, 3], false, ⟨(some 15), .fieldAddr 0 (.tmp 14), some (11, true)⟩⟩,
      ⟨11, [10, 6, 9, 8, 5, 2, 4, 1, 0, 3], false, ⟨(some 16), .load false 1 (.tmp 15), some (11, true)⟩⟩,
      ⟨12, [6, 5, 2, 4, 1, 0, 3], false, ⟨(some 17), .move (.tmp 0), some (11, true)⟩⟩,
      ⟨13, [12, 6, 5, 2, 4, 1, 0, 3], false, ⟨(some 18), .nilCheck (.tmp 17), some (11, true)⟩⟩,
      ⟨14, [13, 6, 12, 5, 2, 4, 1, 0, 3], false, ⟨(some 19), .fieldAddr 2 (.tmp 18), some (11, true)⟩⟩,
      ⟨15, [14, 6, 13, 12, 5, 2, 4, 1, 0, 3], false, ⟨(some 20), .load false 1 (.tmp 19), some (11, true)⟩⟩,
      ⟨16, [11, 15, 6, 10, 9, 8, 5, 2, 4, 1, 0, 3, 14, 13, 12], false, ⟨(some 21), .bin .sub (.tmp 16) (.tmp 20), some (11, true)⟩⟩,
      ⟨17, [6, 5, 2, 4, 1, 0, 3], false, ⟨(some 22), .move (.tmp 0), some (11, true)⟩⟩,
      ⟨18, [17, 6, 5, 2, 4, 1, 0, 3], false, ⟨(some 23), .nilCheck (.tmp 22), some (11, true)⟩⟩,
      ⟨19, [18, 6, 17, 5, 2, 4, 1, 0, 3], false, ⟨(some 24), .fieldAddr 3 (.tmp 23), some (11, true)⟩⟩,
      ⟨20, [19, 6, 18, 17, 5, 2, 4, 1, 0, 3], false, ⟨(some 25), .load false 1 (.tmp 24), some (11, true)⟩⟩,
      ⟨21, [16, 20, 6, 11, 15, 10, 9, 8, 5, 2, 4, 1, 0, 3, 14, 13, 12, 19, 18, 17], false, ⟨(some 26), .bin .sub (.tmp 21) (.tmp 25), some (11, true)⟩⟩,
      ⟨22, [7, 21, 6, 5, 2, 4, 1, 0, 3, 16, 20, 11, 15, 10, 9, 8, 14, 13, 12, 19, 18, 17], false, ⟨(some 27), .bin .leq (.tmp 12) (.tmp 26), some (11, true)⟩⟩,
      ⟨23, [6, 22, 5, 2, 4, 1, 0, 3, 7, 21, 16, 20, 11, 15, 10, 9, 8, 14, 13, 12, 19, 18, 17], false, ⟨(some 28), .pick (.tmp 11) (.tmp 27) (.const (.bool false)), none⟩⟩,
      ⟨24, [23, 6, 0, 1, 2, 3, 4, 5, 7, 8, 9, 10, 11, 12, 13, 14, 15, 16, 17, 18, 19, 20, 21, 22], false, ⟨(some 4), .move (.tmp 28), none⟩⟩]) <|
  .ret, none⟩
-- f13: (*wicket/ledger.Ledger).Left
def c_ledger_Ledger_Left : AFun := ⟨[.tmp 4, .tmp 5],
  .seq (.reg [⟨(some 4), .move (.const (.int .i64 0)), none⟩,
      ⟨(some 5), .move (.const (.bool false)), none⟩]) <|
  .seq (.seq (.reg [⟨(some 6), .move (.tmp 0), none⟩,
        ⟨(some 7), .eqv false .ptr (.tmp 6) (.const (.pointer none)), none⟩]) <|
    .cond (.tmp 7)
      (.seq (.reg [⟨(some 4), .move (.const (.int .i64 0)), none⟩,
          ⟨(some 5), .move (.const (.bool false)), none⟩]) <|
      .ret)
      (.skip)) <|
  .seq (.reg [⟨(some 9), .move (.tmp 0), none⟩,
      ⟨(some 10), .nilCheck (.tmp 9), none⟩,
      ⟨(some 11), .fieldAddr 4 (.tmp 10), none⟩,
      ⟨(some 12), .load false 1 (.tmp 11), none⟩,
      ⟨(some 13), .move (.tmp 1), none⟩,
      ⟨(some 14), .lookup .u64 (.int .i64 0) (.tmp 12) (.tmp 13) true, none⟩,
      ⟨(some 8), .move (.tmp 14), none⟩,
      ⟨(some 15), .extract (.tmp 8) 0, none⟩,
      ⟨(some 16), .extract (.tmp 8) 1, none⟩,
      ⟨(some 4), .move (.tmp 15), none⟩,
      ⟨(some 5), .move (.tmp 16), none⟩]) <|
  .seq (.reg [⟨(some 17), .move (.tmp 4), none⟩,
      ⟨(some 18), .move (.tmp 5), none⟩,
      ⟨(some 4), .move (.tmp 17), none⟩,
      ⟨(some 5), .move (.tmp 18), none⟩]) <|
  .ret, none⟩
-- f14: (*wicket/ledger.Ledger).Marked
def c_ledger_Ledger_Marked : AFun := ⟨[.tmp 2],
  .seq (.reg [⟨(some 2), .move (.const (.bool false)), none⟩]) <|
  .seq (.regd [⟨0, [], false, ⟨(some 3), .move (.tmp 0), none⟩⟩,
      ⟨1, [0], false, ⟨(some 4), .eqv true .ptr (.tmp 3) (.const (.pointer none)), none⟩⟩,
      ⟨2, [1, 0], false, ⟨(some 5), .move (.tmp 4), none⟩⟩,
      ⟨3, [2, 1, 0], false, ⟨(some 6), .move (.tmp 0), some (5, true)⟩⟩,
      ⟨4, [3, 2, 1, 0], false, ⟨(some 7), .nilCheck (.tmp 6), some (5, true)⟩⟩,
      ⟨5, [4, 2, 3, 1, 0], false, ⟨(some 8), .fieldAddr 2 (.tmp 7), some (5, true)⟩⟩,
      ⟨6, [5, 2, 4, 3, 1, 0], false, ⟨(some 9), .load false 1 (.tmp 8), some (5, true)⟩⟩,
      ⟨7, [2, 1, 0], false, ⟨(some 10), .move (.tmp 0), some (5, true)⟩⟩,
      ⟨8, [7, 2, 1, 0], false, ⟨(some 11), .nilCheck (.tmp 10), some (5, true)⟩⟩,
      ⟨9, [8, 2, 7, 1, 0], false, ⟨(some 12), .fieldAddr 1 (.tmp 11), some (5, true)⟩⟩,
      ⟨10, [9, 2, 8, 7, 1, 0], false, ⟨(some 13), .load false 1 (.tmp 12), some (5, true)⟩⟩,
      ⟨11, [6, 10, 2, 5, 4, 3, 1, 0, 9, 8, 7], false, ⟨(some 14), .bin .geq (.tmp 9) (.tmp 13), some (5, true)⟩⟩,
      ⟨12, [2, 11, 1, 0, 6, 10, 5, 4, 3, 9, 8, 7], false, ⟨(some 15), .pick (.tmp 5) (.tmp 14) (.const (.bool false)), none⟩⟩,
      ⟨13, [12, 2, 0, 1, 3, 4, 5, 6, 7, 8, 9, 10, 11], false, ⟨(some 2), .move (.tmp 15), none⟩⟩]) <|
  .ret, none⟩
-- f15: (*wicket/ledger.Ledger).has
def c_ledger_Ledger_has : AFun := ⟨[.tmp 4],
  .seq (.reg [⟨(some 4), .move (.const (.bool false)), none⟩]) <|
  .seq (.reg [⟨(some 8), .move (.tmp 0), none⟩,
      ⟨(some 9), .nilCheck (.tmp 8), none⟩,
      ⟨(some 10), .fieldAddr 4 (.tmp 9), none⟩,
      ⟨(some 11), .load false 1 (.tmp 10), none⟩,
      ⟨(some 12), .move (.tmp 1), none⟩,
      ⟨(some 13), .lookup .u64 (.int .i64 0) (.tmp 11) (.tmp 12) true, none⟩,
      ⟨(some 7), .move (.tmp 13), none⟩,
      ⟨(some 14), .extract (.tmp 7) 0, none⟩,
      ⟨(some 15), .extract (.tmp 7) 1, none⟩,
      ⟨(some 5), .move (.tmp 14), none⟩,
      ⟨(some 6), .move (.tmp 15), none⟩]) <|
  .seq (.reg [⟨(some 16), .move (.tmp 6), none⟩,
      ⟨(some 4), .move (.tmp 16), none⟩]) <|
  .ret, none⟩
end Go.Proofs.Ytnpegkmoadjjeaa
