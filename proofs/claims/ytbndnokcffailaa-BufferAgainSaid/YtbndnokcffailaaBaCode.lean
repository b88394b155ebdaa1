/- The abstract machine's code of the functions at hand, as it is compiled. -/
import Derived.Test.YtbndnokcffailaaSim
namespace Go.Proofs.Ytbndnokcffailaa
open Go
set_option maxRecDepth 100000
def k_wicketlaw16_BufferAgain : Nat := 3
def k_buffer_New : Nat := 4
def k_wicketlaw16_awake : Nat := 5
def k_wicketref05_Has : Nat := 6
def k_buffer_Buffer_Write : Nat := 7
def k_buffer_Buffer_Read : Nat := 8
def k_buffer_Buffer_Images : Nat := 9
def k_buffer_Buffer_Len : Nat := 10
def k_wicketref16_Same : Nat := 11
def k_blocks_Is : Nat := 12
def k_slices_Clone_int_int : Nat := 13
def k_buffer_Buffer_refused : Nat := 14
def k_blocks_Has : Nat := 15
def k_slices_Contains_int_int : Nat := 16
def k_slices_Index_int_int : Nat := 17
-- f3: wicket/wicketlaw16.BufferAgain
def c_wicketlaw16_BufferAgain_S0 : AC :=
  .reg [⟨(some 6), .move (.const (.bool false)), none⟩]
def c_wicketlaw16_BufferAgain_S1 : AC :=
  .reg [⟨(some 27), .move (.tmp 0), none⟩,
    ⟨(some 28), .call k_buffer_New [(.tmp 27)], none⟩,
    ⟨(some 26), .move (.tmp 28), none⟩,
    ⟨(some 29), .extract (.tmp 26) 0, none⟩,
    ⟨(some 30), .extract (.tmp 26) 1, none⟩,
    ⟨(some 7), .move (.tmp 29), none⟩,
    ⟨(some 8), .move (.tmp 30), none⟩]
def c_wicketlaw16_BufferAgain_S2 : AC :=
  .reg [⟨(some 31), .call k_wicketlaw16_awake [], none⟩,
    ⟨(some 32), .un .not (.tmp 31), none⟩,
    ⟨(some 33), .move (.tmp 32), none⟩,
    ⟨(some 34), .move (.tmp 8), some (33, false)⟩,
    ⟨(some 35), .bin .neq (.tmp 34) (.const (.int .i64 0)), some (33, false)⟩,
    ⟨(some 36), .pick (.tmp 33) (.const (.bool true)) (.tmp 35), none⟩,
    ⟨(some 37), .move (.tmp 36), none⟩,
    ⟨(some 38), .move (.tmp 7), some (37, false)⟩,
    ⟨(some 39), .eqv false .ptr (.tmp 38) (.const (.pointer none)), some (37, false)⟩,
    ⟨(some 40), .pick (.tmp 37) (.const (.bool true)) (.tmp 39), none⟩]
def c_wicketlaw16_BufferAgain_S3 : AC :=
  .reg [⟨(some 41), .call k_wicketlaw16_awake [], none⟩,
    ⟨(some 42), .move (.tmp 41), none⟩,
    ⟨(some 43), .move (.tmp 8), some (42, true)⟩,
    ⟨(some 44), .bin .eql (.tmp 43) (.const (.int .i64 53)), some (42, true)⟩,
    ⟨(some 45), .pick (.tmp 42) (.tmp 44) (.const (.bool false)), none⟩,
    ⟨(some 46), .move (.tmp 45), none⟩,
    ⟨(some 47), .move (.tmp 7), some (46, true)⟩,
    ⟨(some 48), .eqv false .ptr (.tmp 47) (.const (.pointer none)), some (46, true)⟩,
    ⟨(some 49), .pick (.tmp 46) (.tmp 48) (.const (.bool false)), none⟩,
    ⟨(some 6), .move (.tmp 49), none⟩]
def c_wicketlaw16_BufferAgain_S4 : AC :=
  .seq c_wicketlaw16_BufferAgain_S2 <|
  .cond (.tmp 40)
    (.seq c_wicketlaw16_BufferAgain_S3 <|
    .ret)
    (.skip)
def c_wicketlaw16_BufferAgain_S5 : AC :=
  .reg [⟨(some 9), .move (.const (.int .i64 0)), none⟩]
def c_wicketlaw16_BufferAgain_S6 : AC :=
  .reg [⟨(some 50), .move (.tmp 9), none⟩,
    ⟨(some 51), .move (.tmp 1), none⟩,
    ⟨(some 52), .lenS (.tmp 51), none⟩,
    ⟨(some 53), .bin .lss (.tmp 50) (.tmp 52), none⟩,
    ⟨(some 54), .move (.tmp 53), none⟩,
    ⟨(some 55), .move (.tmp 9), some (54, true)⟩,
    ⟨(some 56), .bin .lss (.tmp 55) (.const (.int .i64 100)), some (54, true)⟩,
    ⟨(some 57), .pick (.tmp 54) (.tmp 56) (.const (.bool false)), none⟩]
def c_wicketlaw16_BufferAgain_S7 : AC :=
  .seq c_wicketlaw16_BufferAgain_S6 <|
  .cond (.tmp 57)
    (.skip)
    (.exit 0)
def c_wicketlaw16_BufferAgain_S8 : AC :=
  .reg [⟨(some 60), .move (.tmp 0), none⟩,
    ⟨(some 61), .move (.tmp 1), none⟩,
    ⟨(some 62), .move (.tmp 9), none⟩,
    ⟨(some 63), .idxSlice 33 (.tmp 61) (.tmp 62), none⟩,
    ⟨(some 64), .fieldAddr 0 (.tmp 63), none⟩,
    ⟨(some 65), .load false 1 (.tmp 64), none⟩,
    ⟨(some 66), .call k_wicketref05_Has [(.tmp 60), (.tmp 65)], none⟩,
    ⟨(some 10), .move (.tmp 66), none⟩]
def c_wicketlaw16_BufferAgain_S9 : AC :=
  .regd [⟨0, [], false, ⟨(some 67), .move (.tmp 7), none⟩⟩,
    ⟨1, [], false, ⟨(some 68), .move (.tmp 1), none⟩⟩,
    ⟨2, [], false, ⟨(some 69), .move (.tmp 9), none⟩⟩,
    ⟨3, [1, 2], false, ⟨(some 70), .idxSlice 33 (.tmp 68) (.tmp 69), none⟩⟩,
    ⟨4, [3, 1, 2], false, ⟨(some 71), .fieldAddr 0 (.tmp 70), none⟩⟩,
    ⟨5, [4, 3, 1, 2], false, ⟨(some 72), .load false 1 (.tmp 71), none⟩⟩,
    ⟨6, [], false, ⟨(some 73), .move (.tmp 1), none⟩⟩,
    ⟨7, [], false, ⟨(some 74), .move (.tmp 9), none⟩⟩,
    ⟨8, [6, 7], false, ⟨(some 75), .idxSlice 33 (.tmp 73) (.tmp 74), none⟩⟩,
    ⟨9, [8, 6, 7], false, ⟨(some 76), .fieldAddr 1 (.tmp 75), none⟩⟩,
    ⟨10, [9, 8, 6, 7], false, ⟨(some 77), .load true 32 (.tmp 76), none⟩⟩,
    ⟨13, [], false, ⟨(some 80), .move (.tmp 10), none⟩⟩,
    ⟨11, [0, 5, 10, 4, 3, 1, 2, 9, 8, 6, 7], true, ⟨(some 78), .call k_buffer_Buffer_Write [(.tmp 67), (.tmp 72), (.tmp 77)], none⟩⟩,
    ⟨12, [11, 0, 5, 10, 4, 3, 1, 2, 9, 8, 6, 7], false, ⟨(some 79), .bin .eql (.tmp 78) (.const (.int .i64 0)), none⟩⟩,
    ⟨14, [12, 13, 11, 0, 5, 10, 4, 3, 1, 2, 9, 8, 6, 7], false, ⟨(some 81), .eqv true .bool (.tmp 79) (.tmp 80), none⟩⟩]
def c_wicketlaw16_BufferAgain_S10 : AC :=
  .reg [⟨(some 6), .move (.const (.bool false)), none⟩]
def c_wicketlaw16_BufferAgain_S11 : AC :=
  .seq c_wicketlaw16_BufferAgain_S9 <|
  .cond (.tmp 81)
    (.seq c_wicketlaw16_BufferAgain_S10 <|
    .ret)
    (.skip)
def c_wicketlaw16_BufferAgain_S12 : AC :=
  .reg [⟨(some 83), .move (.tmp 7), none⟩,
    ⟨(some 84), .move (.tmp 1), none⟩,
    ⟨(some 85), .move (.tmp 9), none⟩,
    ⟨(some 86), .idxSlice 33 (.tmp 84) (.tmp 85), none⟩,
    ⟨(some 87), .fieldAddr 0 (.tmp 86), none⟩,
    ⟨(some 88), .load false 1 (.tmp 87), none⟩,
    ⟨(some 89), .call k_buffer_Buffer_Read [(.tmp 83), (.tmp 88)], none⟩,
    ⟨(some 82), .move (.tmp 89), none⟩,
    ⟨(some 90), .extract (.tmp 82) 0, none⟩,
    ⟨(some 91), .extract (.tmp 82) 1, none⟩,
    ⟨(some 92), .extract (.tmp 82) 2, none⟩,
    ⟨(some 11), .alloc (List.replicate 32 (.int .u8 0)), none⟩,
    ⟨none, .store 32 (.tmp 11) (.tmp 90), none⟩,
    ⟨(some 12), .move (.tmp 91), none⟩,
    ⟨(some 13), .move (.tmp 92), none⟩]
def c_wicketlaw16_BufferAgain_S13 : AC :=
  .regd [⟨0, [], false, ⟨(some 93), .move (.tmp 10), none⟩⟩,
    ⟨1, [0], false, ⟨(some 94), .move (.tmp 93), none⟩⟩,
    ⟨2, [1, 0], false, ⟨(some 95), .load true 32 (.tmp 11), some (94, true)⟩⟩,
    ⟨3, [1, 0], false, ⟨(some 96), .move (.tmp 1), some (94, true)⟩⟩,
    ⟨4, [1, 0], false, ⟨(some 97), .move (.tmp 9), some (94, true)⟩⟩,
    ⟨5, [3, 4, 1, 0], false, ⟨(some 98), .idxSlice 33 (.tmp 96) (.tmp 97), some (94, true)⟩⟩,
    ⟨6, [5, 1, 3, 4, 0], false, ⟨(some 99), .fieldAddr 1 (.tmp 98), some (94, true)⟩⟩,
    ⟨7, [6, 1, 5, 3, 4, 0], false, ⟨(some 100), .load true 32 (.tmp 99), some (94, true)⟩⟩,
    ⟨8, [2, 7, 1, 0, 6, 5, 3, 4], false, ⟨(some 101), .eqv true (.agg (List.replicate 32 false)) (.tmp 95) (.tmp 100), some (94, true)⟩⟩,
    ⟨9, [8, 1, 2, 7, 0, 6, 5, 3, 4], false, ⟨(some 102), .move (.tmp 101), some (94, true)⟩⟩,
    ⟨10, [9, 8, 1, 2, 7, 0, 6, 5, 3, 4], false, ⟨(some 103), .move (.tmp 12), some (102, false)⟩⟩,
    ⟨11, [10, 9, 8, 1, 2, 7, 0, 6, 5, 3, 4], false, ⟨(some 104), .un .not (.tmp 103), some (102, false)⟩⟩,
    ⟨12, [9, 11, 1, 8, 2, 7, 0, 6, 5, 3, 4, 10], false, ⟨(some 105), .pick (.tmp 102) (.const (.bool true)) (.tmp 104), some (94, true)⟩⟩,
    ⟨13, [12, 9, 1, 11, 8, 2, 7, 0, 6, 5, 3, 4, 10], false, ⟨(some 106), .move (.tmp 105), some (94, true)⟩⟩,
    ⟨14, [13, 12, 9, 1, 11, 8, 2, 7, 0, 6, 5, 3, 4, 10], false, ⟨(some 107), .move (.tmp 13), some (106, false)⟩⟩,
    ⟨15, [14, 13, 12, 9, 1, 11, 8, 2, 7, 0, 6, 5, 3, 4, 10], false, ⟨(some 108), .bin .neq (.tmp 107) (.const (.int .i64 0)), some (106, false)⟩⟩,
    ⟨16, [13, 15, 1, 12, 9, 11, 8, 2, 7, 0, 6, 5, 3, 4, 10, 14], false, ⟨(some 109), .pick (.tmp 106) (.const (.bool true)) (.tmp 108), some (94, true)⟩⟩,
    ⟨17, [1, 16, 0, 13, 15, 12, 9, 11, 8, 2, 7, 6, 5, 3, 4, 10, 14], false, ⟨(some 110), .pick (.tmp 94) (.tmp 109) (.const (.bool false)), none⟩⟩]
def c_wicketlaw16_BufferAgain_S14 : AC :=
  .reg [⟨(some 6), .move (.const (.bool false)), none⟩]
def c_wicketlaw16_BufferAgain_S15 : AC :=
  .block 1 <|
    .seq c_wicketlaw16_BufferAgain_S8 <|
    .seq c_wicketlaw16_BufferAgain_S11 <|
    .seq c_wicketlaw16_BufferAgain_S12 <|
    .seq c_wicketlaw16_BufferAgain_S13 <|
    .cond (.tmp 110)
      (.seq c_wicketlaw16_BufferAgain_S14 <|
      .ret)
      (.skip)
def c_wicketlaw16_BufferAgain_L16 : AC :=
  .seq c_wicketlaw16_BufferAgain_S7 <|
  .seq c_wicketlaw16_BufferAgain_S15 <|
  .reg [⟨(some 58), .move (.tmp 9), none⟩,
    ⟨(some 59), .bin .add (.tmp 58) (.const (.int .i64 1)), none⟩,
    ⟨(some 9), .move (.tmp 59), none⟩]
def c_wicketlaw16_BufferAgain_S17 : AC :=
  .seq c_wicketlaw16_BufferAgain_S5 <|
  .block 0 <|
    .loop c_wicketlaw16_BufferAgain_L16
def c_wicketlaw16_BufferAgain_S18 : AC :=
  .reg [⟨(some 111), .move (.tmp 7), none⟩,
    ⟨(some 112), .call k_buffer_Buffer_Images [(.tmp 111)], none⟩,
    ⟨(some 14), .move (.tmp 112), none⟩]
def c_wicketlaw16_BufferAgain_S19 : AC :=
  .reg [⟨(some 114), .move (.tmp 0), none⟩,
    ⟨(some 115), .call k_buffer_New [(.tmp 114)], none⟩,
    ⟨(some 113), .move (.tmp 115), none⟩,
    ⟨(some 116), .extract (.tmp 113) 0, none⟩,
    ⟨(some 117), .extract (.tmp 113) 1, none⟩,
    ⟨(some 15), .move (.tmp 116), none⟩,
    ⟨(some 16), .move (.tmp 117), none⟩]
def c_wicketlaw16_BufferAgain_S20 : AC :=
  .reg [⟨(some 118), .move (.tmp 16), none⟩,
    ⟨(some 119), .bin .neq (.tmp 118) (.const (.int .i64 0)), none⟩,
    ⟨(some 120), .move (.tmp 119), none⟩,
    ⟨(some 121), .move (.tmp 15), some (120, false)⟩,
    ⟨(some 122), .eqv false .ptr (.tmp 121) (.const (.pointer none)), some (120, false)⟩,
    ⟨(some 123), .pick (.tmp 120) (.const (.bool true)) (.tmp 122), none⟩,
    ⟨(some 124), .move (.tmp 123), none⟩,
    ⟨(some 125), .move (.tmp 14), some (124, false)⟩,
    ⟨(some 126), .lenS (.tmp 125), some (124, false)⟩,
    ⟨(some 127), .move (.tmp 7), some (124, false)⟩,
    ⟨(some 128), .call k_buffer_Buffer_Len [(.tmp 127)], some (124, false)⟩,
    ⟨(some 129), .bin .neq (.tmp 126) (.tmp 128), some (124, false)⟩,
    ⟨(some 130), .pick (.tmp 124) (.const (.bool true)) (.tmp 129), none⟩,
    ⟨(some 131), .move (.tmp 130), none⟩,
    ⟨(some 132), .move (.tmp 14), some (131, false)⟩,
    ⟨(some 133), .lenS (.tmp 132), some (131, false)⟩,
    ⟨(some 134), .move (.tmp 0), some (131, false)⟩,
    ⟨(some 135), .lenS (.tmp 134), some (131, false)⟩,
    ⟨(some 136), .bin .gtr (.tmp 133) (.tmp 135), some (131, false)⟩,
    ⟨(some 137), .pick (.tmp 131) (.const (.bool true)) (.tmp 136), none⟩]
def c_wicketlaw16_BufferAgain_S21 : AC :=
  .reg [⟨(some 6), .move (.const (.bool false)), none⟩]
def c_wicketlaw16_BufferAgain_S22 : AC :=
  .seq c_wicketlaw16_BufferAgain_S20 <|
  .cond (.tmp 137)
    (.seq c_wicketlaw16_BufferAgain_S21 <|
    .ret)
    (.skip)
def c_wicketlaw16_BufferAgain_S23 : AC :=
  .reg [⟨(some 17), .move (.const (.int .i64 0)), none⟩]
def c_wicketlaw16_BufferAgain_S24 : AC :=
  .reg [⟨(some 138), .move (.tmp 17), none⟩,
    ⟨(some 139), .move (.tmp 14), none⟩,
    ⟨(some 140), .lenS (.tmp 139), none⟩,
    ⟨(some 141), .bin .lss (.tmp 138) (.tmp 140), none⟩]
def c_wicketlaw16_BufferAgain_S25 : AC :=
  .seq c_wicketlaw16_BufferAgain_S24 <|
  .cond (.tmp 141)
    (.skip)
    (.exit 2)
def c_wicketlaw16_BufferAgain_S26 : AC :=
  .reg [⟨(some 144), .move (.tmp 17), none⟩,
    ⟨(some 18), .move (.tmp 144), none⟩]
def c_wicketlaw16_BufferAgain_S27 : AC :=
  .reg [⟨(some 145), .move (.tmp 2), none⟩]
def c_wicketlaw16_BufferAgain_S28 : AC :=
  .seq c_wicketlaw16_BufferAgain_S27 <|
  .cond (.tmp 145)
    (.reg [⟨(some 146), .move (.tmp 14), none⟩,
      ⟨(some 147), .lenS (.tmp 146), none⟩,
      ⟨(some 148), .bin .sub (.tmp 147) (.const (.int .i64 1)), none⟩,
      ⟨(some 149), .move (.tmp 17), none⟩,
      ⟨(some 150), .bin .sub (.tmp 148) (.tmp 149), none⟩,
      ⟨(some 18), .move (.tmp 150), none⟩])
    (.skip)
def c_wicketlaw16_BufferAgain_S29 : AC :=
  .regd [⟨0, [], false, ⟨(some 151), .move (.tmp 15), none⟩⟩,
    ⟨1, [], false, ⟨(some 152), .move (.tmp 14), none⟩⟩,
    ⟨2, [], false, ⟨(some 153), .move (.tmp 18), none⟩⟩,
    ⟨3, [1, 2], false, ⟨(some 154), .idxSlice 33 (.tmp 152) (.tmp 153), none⟩⟩,
    ⟨4, [3, 1, 2], false, ⟨(some 155), .fieldAddr 0 (.tmp 154), none⟩⟩,
    ⟨5, [4, 3, 1, 2], false, ⟨(some 156), .load false 1 (.tmp 155), none⟩⟩,
    ⟨6, [], false, ⟨(some 157), .move (.tmp 14), none⟩⟩,
    ⟨7, [], false, ⟨(some 158), .move (.tmp 18), none⟩⟩,
    ⟨8, [6, 7], false, ⟨(some 159), .idxSlice 33 (.tmp 157) (.tmp 158), none⟩⟩,
    ⟨9, [8, 6, 7], false, ⟨(some 160), .fieldAddr 1 (.tmp 159), none⟩⟩,
    ⟨10, [9, 8, 6, 7], false, ⟨(some 161), .load true 32 (.tmp 160), none⟩⟩,
    ⟨11, [0, 5, 10, 4, 3, 1, 2, 9, 8, 6, 7], true, ⟨(some 162), .call k_buffer_Buffer_Write [(.tmp 151), (.tmp 156), (.tmp 161)], none⟩⟩,
    ⟨12, [11, 0, 5, 10, 4, 3, 1, 2, 9, 8, 6, 7], false, ⟨(some 163), .bin .neq (.tmp 162) (.const (.int .i64 0)), none⟩⟩,
    ⟨13, [12, 11, 0, 5, 10, 4, 3, 1, 2, 9, 8, 6, 7], false, ⟨(some 164), .move (.tmp 163), none⟩⟩,
    ⟨14, [13, 12, 11, 0, 5, 10, 4, 3, 1, 2, 9, 8, 6, 7], false, ⟨(some 165), .move (.tmp 17), some (164, false)⟩⟩,
    ⟨15, [14, 13, 12, 11, 0, 5, 10, 4, 3, 1, 2, 9, 8, 6, 7], false, ⟨(some 166), .bin .gtr (.tmp 165) (.const (.int .i64 0)), some (164, false)⟩⟩,
    ⟨16, [15, 13, 14, 12, 11, 0, 5, 10, 4, 3, 1, 2, 9, 8, 6, 7], false, ⟨(some 167), .move (.tmp 166), some (164, false)⟩⟩,
    ⟨17, [16, 15, 13, 14, 12, 11, 0, 5, 10, 4, 3, 1, 2, 9, 8, 6, 7], false, ⟨(some 168), .move (.tmp 14), some (167, true)⟩⟩,
    ⟨18, [16, 15, 13, 14, 12, 11, 0, 5, 10, 4, 3, 1, 2, 9, 8, 6, 7], false, ⟨(some 169), .move (.tmp 17), some (167, true)⟩⟩,
    ⟨19, [18, 16, 15, 13, 14, 12, 11, 0, 5, 10, 4, 3, 1, 2, 9, 8, 6, 7], false, ⟨(some 170), .bin .sub (.tmp 169) (.const (.int .i64 1)), some (167, true)⟩⟩,
    ⟨20, [17, 19, 16, 15, 13, 14, 12, 11, 0, 5, 10, 4, 3, 1, 2, 9, 8, 6, 7, 18], false, ⟨(some 171), .idxSlice 33 (.tmp 168) (.tmp 170), some (167, true)⟩⟩,
    ⟨21, [20, 16, 17, 19, 15, 13, 14, 12, 11, 0, 5, 10, 4, 3, 1, 2, 9, 8, 6, 7, 18], false, ⟨(some 172), .fieldAddr 0 (.tmp 171), some (167, true)⟩⟩,
    ⟨22, [21, 16, 20, 17, 19, 15, 13, 14, 12, 11, 0, 5, 10, 4, 3, 1, 2, 9, 8, 6, 7, 18], false, ⟨(some 173), .load false 1 (.tmp 172), some (167, true)⟩⟩,
    ⟨23, [16, 15, 13, 14, 12, 11, 0, 5, 10, 4, 3, 1, 2, 9, 8, 6, 7], false, ⟨(some 174), .move (.tmp 14), some (167, true)⟩⟩,
    ⟨24, [16, 15, 13, 14, 12, 11, 0, 5, 10, 4, 3, 1, 2, 9, 8, 6, 7], false, ⟨(some 175), .move (.tmp 17), some (167, true)⟩⟩,
    ⟨25, [23, 24, 16, 15, 13, 14, 12, 11, 0, 5, 10, 4, 3, 1, 2, 9, 8, 6, 7], false, ⟨(some 176), .idxSlice 33 (.tmp 174) (.tmp 175), some (167, true)⟩⟩,
    ⟨26, [25, 16, 23, 24, 15, 13, 14, 12, 11, 0, 5, 10, 4, 3, 1, 2, 9, 8, 6, 7], false, ⟨(some 177), .fieldAddr 0 (.tmp 176), some (167, true)⟩⟩,
    ⟨27, [26, 16, 25, 23, 24, 15, 13, 14, 12, 11, 0, 5, 10, 4, 3, 1, 2, 9, 8, 6, 7], false, ⟨(some 178), .load false 1 (.tmp 177), some (167, true)⟩⟩,
    ⟨28, [22, 27, 16, 21, 20, 17, 19, 15, 13, 14, 12, 11, 0, 5, 10, 4, 3, 1, 2, 9, 8, 6, 7, 18, 26, 25, 23, 24], false, ⟨(some 179), .bin .geq (.tmp 173) (.tmp 178), some (167, true)⟩⟩,
    ⟨29, [16, 28, 13, 15, 14, 12, 11, 0, 5, 10, 4, 3, 1, 2, 9, 8, 6, 7, 22, 27, 21, 20, 17, 19, 18, 26, 25, 23, 24], false, ⟨(some 180), .pick (.tmp 167) (.tmp 179) (.const (.bool false)), some (164, false)⟩⟩,
    ⟨30, [13, 29, 12, 11, 0, 5, 10, 4, 3, 1, 2, 9, 8, 6, 7, 16, 28, 15, 14, 22, 27, 21, 20, 17, 19, 18, 26, 25, 23, 24], false, ⟨(some 181), .pick (.tmp 164) (.const (.bool true)) (.tmp 180), none⟩⟩]
def c_wicketlaw16_BufferAgain_S30 : AC :=
  .reg [⟨(some 6), .move (.const (.bool false)), none⟩]
def c_wicketlaw16_BufferAgain_S31 : AC :=
  .block 3 <|
    .seq c_wicketlaw16_BufferAgain_S26 <|
    .seq c_wicketlaw16_BufferAgain_S28 <|
    .seq c_wicketlaw16_BufferAgain_S29 <|
    .cond (.tmp 181)
      (.seq c_wicketlaw16_BufferAgain_S30 <|
      .ret)
      (.skip)
def c_wicketlaw16_BufferAgain_L32 : AC :=
  .seq c_wicketlaw16_BufferAgain_S25 <|
  .seq c_wicketlaw16_BufferAgain_S31 <|
  .reg [⟨(some 142), .move (.tmp 17), none⟩,
    ⟨(some 143), .bin .add (.tmp 142) (.const (.int .i64 1)), none⟩,
    ⟨(some 17), .move (.tmp 143), none⟩]
def c_wicketlaw16_BufferAgain_S33 : AC :=
  .seq c_wicketlaw16_BufferAgain_S23 <|
  .block 2 <|
    .loop c_wicketlaw16_BufferAgain_L32
def c_wicketlaw16_BufferAgain_S34 : AC :=
  .reg [⟨(some 182), .move (.tmp 15), none⟩,
    ⟨(some 183), .call k_buffer_Buffer_Images [(.tmp 182)], none⟩,
    ⟨(some 184), .move (.tmp 14), none⟩,
    ⟨(some 185), .call k_wicketref16_Same [(.tmp 183), (.tmp 184)], none⟩,
    ⟨(some 186), .un .not (.tmp 185), none⟩]
def c_wicketlaw16_BufferAgain_S35 : AC :=
  .reg [⟨(some 6), .move (.const (.bool false)), none⟩]
def c_wicketlaw16_BufferAgain_S36 : AC :=
  .seq c_wicketlaw16_BufferAgain_S34 <|
  .cond (.tmp 186)
    (.seq c_wicketlaw16_BufferAgain_S35 <|
    .ret)
    (.skip)
def c_wicketlaw16_BufferAgain_S37 : AC :=
  .reg [⟨(some 19), .move (.const (.int .i64 0)), none⟩]
def c_wicketlaw16_BufferAgain_S38 : AC :=
  .reg [⟨(some 187), .move (.tmp 19), none⟩,
    ⟨(some 188), .move (.tmp 0), none⟩,
    ⟨(some 189), .lenS (.tmp 188), none⟩,
    ⟨(some 190), .bin .lss (.tmp 187) (.tmp 189), none⟩]
def c_wicketlaw16_BufferAgain_S39 : AC :=
  .seq c_wicketlaw16_BufferAgain_S38 <|
  .cond (.tmp 190)
    (.skip)
    (.exit 4)
def c_wicketlaw16_BufferAgain_S40 : AC :=
  .reg [⟨(some 194), .move (.tmp 7), none⟩,
    ⟨(some 195), .move (.tmp 0), none⟩,
    ⟨(some 196), .move (.tmp 19), none⟩,
    ⟨(some 197), .idxSlice 1 (.tmp 195) (.tmp 196), none⟩,
    ⟨(some 198), .load false 1 (.tmp 197), none⟩,
    ⟨(some 199), .call k_buffer_Buffer_Read [(.tmp 194), (.tmp 198)], none⟩,
    ⟨(some 193), .move (.tmp 199), none⟩,
    ⟨(some 200), .extract (.tmp 193) 0, none⟩,
    ⟨(some 201), .extract (.tmp 193) 1, none⟩,
    ⟨(some 202), .extract (.tmp 193) 2, none⟩,
    ⟨(some 20), .alloc (List.replicate 32 (.int .u8 0)), none⟩,
    ⟨none, .store 32 (.tmp 20) (.tmp 200), none⟩,
    ⟨(some 21), .move (.tmp 201), none⟩,
    ⟨(some 22), .move (.tmp 202), none⟩]
def c_wicketlaw16_BufferAgain_S41 : AC :=
  .reg [⟨(some 204), .move (.tmp 15), none⟩,
    ⟨(some 205), .move (.tmp 0), none⟩,
    ⟨(some 206), .move (.tmp 19), none⟩,
    ⟨(some 207), .idxSlice 1 (.tmp 205) (.tmp 206), none⟩,
    ⟨(some 208), .load false 1 (.tmp 207), none⟩,
    ⟨(some 209), .call k_buffer_Buffer_Read [(.tmp 204), (.tmp 208)], none⟩,
    ⟨(some 203), .move (.tmp 209), none⟩,
    ⟨(some 210), .extract (.tmp 203) 0, none⟩,
    ⟨(some 211), .extract (.tmp 203) 1, none⟩,
    ⟨(some 212), .extract (.tmp 203) 2, none⟩,
    ⟨(some 23), .alloc (List.replicate 32 (.int .u8 0)), none⟩,
    ⟨none, .store 32 (.tmp 23) (.tmp 210), none⟩,
    ⟨(some 24), .move (.tmp 211), none⟩,
    ⟨(some 25), .move (.tmp 212), none⟩]
def c_wicketlaw16_BufferAgain_S42 : AC :=
  .reg [⟨(some 213), .load true 32 (.tmp 20), none⟩,
    ⟨(some 214), .load true 32 (.tmp 23), none⟩,
    ⟨(some 215), .eqv true (.agg (List.replicate 32 false)) (.tmp 213) (.tmp 214), none⟩,
    ⟨(some 216), .move (.tmp 215), none⟩,
    ⟨(some 217), .move (.tmp 21), some (216, false)⟩,
    ⟨(some 218), .move (.tmp 24), some (216, false)⟩,
    ⟨(some 219), .eqv true .bool (.tmp 217) (.tmp 218), some (216, false)⟩,
    ⟨(some 220), .pick (.tmp 216) (.const (.bool true)) (.tmp 219), none⟩]
def c_wicketlaw16_BufferAgain_S43 : AC :=
  .reg [⟨(some 6), .move (.const (.bool false)), none⟩]
def c_wicketlaw16_BufferAgain_S44 : AC :=
  .block 5 <|
    .seq c_wicketlaw16_BufferAgain_S40 <|
    .seq c_wicketlaw16_BufferAgain_S41 <|
    .seq c_wicketlaw16_BufferAgain_S42 <|
    .cond (.tmp 220)
      (.seq c_wicketlaw16_BufferAgain_S43 <|
      .ret)
      (.skip)
def c_wicketlaw16_BufferAgain_L45 : AC :=
  .seq c_wicketlaw16_BufferAgain_S39 <|
  .seq c_wicketlaw16_BufferAgain_S44 <|
  .reg [⟨(some 191), .move (.tmp 19), none⟩,
    ⟨(some 192), .bin .add (.tmp 191) (.const (.int .i64 1)), none⟩,
    ⟨(some 19), .move (.tmp 192), none⟩]
def c_wicketlaw16_BufferAgain_S46 : AC :=
  .seq c_wicketlaw16_BufferAgain_S37 <|
  .block 4 <|
    .loop c_wicketlaw16_BufferAgain_L45
def c_wicketlaw16_BufferAgain_S47 : AC :=
  .reg [⟨(some 6), .move (.const (.bool true)), none⟩]
def c_wicketlaw16_BufferAgain : AFun := ⟨[.tmp 6],
  .seq c_wicketlaw16_BufferAgain_S0 <|
  .seq c_wicketlaw16_BufferAgain_S1 <|
  .seq c_wicketlaw16_BufferAgain_S4 <|
  .seq c_wicketlaw16_BufferAgain_S17 <|
  .seq c_wicketlaw16_BufferAgain_S18 <|
  .seq c_wicketlaw16_BufferAgain_S19 <|
  .seq c_wicketlaw16_BufferAgain_S22 <|
  .seq c_wicketlaw16_BufferAgain_S33 <|
  .seq c_wicketlaw16_BufferAgain_S36 <|
  .seq c_wicketlaw16_BufferAgain_S46 <|
  .seq c_wicketlaw16_BufferAgain_S47 <|
  .ret, none⟩
-- f4: wicket/buffer.New
def c_buffer_New : AFun := ⟨[.tmp 2, .tmp 3],
  .seq (.reg [⟨(some 2), .move (.const (.pointer none)), none⟩,
      ⟨(some 3), .move (.const (.int .i64 0)), none⟩]) <|
  .seq (.seq (.reg [⟨(some 4), .move (.tmp 0), none⟩,
        ⟨(some 5), .call k_blocks_Is [(.tmp 4)], none⟩,
        ⟨(some 6), .un .not (.tmp 5), none⟩]) <|
    .cond (.tmp 6)
      (.seq (.reg [⟨(some 2), .move (.const (.pointer none)), none⟩,
          ⟨(some 3), .move (.const (.int .i64 53)), none⟩]) <|
      .ret)
      (.skip)) <|
  .seq (.reg [⟨(some 7), .move (.tmp 0), none⟩,
      ⟨(some 8), .call k_slices_Clone_int_int [(.tmp 7)], none⟩,
      ⟨(some 9), .makeMap, none⟩,
      ⟨(some 10), .build [(.slice none 0 0), (.map none)] [(0, 1, (.tmp 8)), (1, 1, (.tmp 9))], none⟩,
      ⟨(some 11), .box (.tmp 10), none⟩,
      ⟨(some 2), .move (.tmp 11), none⟩,
      ⟨(some 3), .move (.const (.int .i64 0)), none⟩]) <|
  .ret, none⟩
-- f5: wicket/wicketlaw16.awake
def c_wicketlaw16_awake : AFun := ⟨[.tmp 0],
  .seq (.reg [⟨(some 0), .move (.const (.bool false)), none⟩]) <|
  .seq (.reg [⟨(some 14), .buildSlice 2 1 [(.int .i64 0), (.int .i64 0)] [(0, 1, (.const (.int .i64 1))), (1, 1, (.const (.int .i64 4)))], none⟩,
      ⟨(some 15), .call k_buffer_New [(.tmp 14)], none⟩,
      ⟨(some 13), .move (.tmp 15), none⟩,
      ⟨(some 16), .extract (.tmp 13) 0, none⟩,
      ⟨(some 17), .extract (.tmp 13) 1, none⟩,
      ⟨(some 1), .move (.tmp 16), none⟩,
      ⟨(some 2), .move (.tmp 17), none⟩]) <|
  .seq (.seq (.reg [⟨(some 18), .move (.const (.bool false)), none⟩,
        ⟨(some 19), .move (.tmp 2), some (18, false)⟩,
        ⟨(some 20), .bin .neq (.tmp 19) (.const (.int .i64 0)), some (18, false)⟩,
        ⟨(some 21), .pick (.tmp 18) (.const (.bool true)) (.tmp 20), none⟩,
        ⟨(some 22), .move (.tmp 21), none⟩,
        ⟨(some 23), .move (.tmp 1), some (22, false)⟩,
        ⟨(some 24), .eqv false .ptr (.tmp 23) (.const (.pointer none)), some (22, false)⟩,
        ⟨(some 25), .pick (.tmp 22) (.const (.bool true)) (.tmp 24), none⟩,
        ⟨(some 26), .move (.tmp 25), none⟩,
        ⟨(some 27), .move (.tmp 1), some (26, false)⟩,
        ⟨(some 28), .call k_buffer_Buffer_Len [(.tmp 27)], some (26, false)⟩,
        ⟨(some 29), .bin .neq (.tmp 28) (.const (.int .i64 0)), some (26, false)⟩,
        ⟨(some 30), .pick (.tmp 26) (.const (.bool true)) (.tmp 29), none⟩]) <|
    .cond (.tmp 30)
      (.seq (.reg [⟨(some 0), .move (.const (.bool false)), none⟩]) <|
      .ret)
      (.skip)) <|
  .seq (.reg [⟨(some 31), .build (List.replicate 32 (.int .u8 0)) [(0, 1, (.const (.int .u8 1)))], none⟩,
      ⟨(some 32), .build (List.replicate 32 (.int .u8 0)) [(0, 1, (.const (.int .u8 2)))], none⟩,
      ⟨(some 33), .build (List.replicate 32 (.int .u8 0)) [(0, 1, (.const (.int .u8 3)))], none⟩,
      ⟨(some 3), .alloc (List.replicate 32 (.int .u8 0)), none⟩,
      ⟨(some 4), .alloc (List.replicate 32 (.int .u8 0)), none⟩,
      ⟨(some 5), .alloc (List.replicate 32 (.int .u8 0)), none⟩,
      ⟨none, .store 32 (.tmp 3) (.tmp 31), none⟩,
      ⟨none, .store 32 (.tmp 4) (.tmp 32), none⟩,
      ⟨none, .store 32 (.tmp 5) (.tmp 33), none⟩]) <|
  .seq (.regd [⟨0, [], false, ⟨(some 34), .move (.tmp 1), none⟩⟩,
      ⟨1, [], false, ⟨(some 35), .load true 32 (.tmp 3), none⟩⟩,
      ⟨3, [], false, ⟨(some 37), .move (.tmp 1), none⟩⟩,
      ⟨4, [], false, ⟨(some 38), .load true 32 (.tmp 3), none⟩⟩,
      ⟨6, [], false, ⟨(some 40), .move (.tmp 1), none⟩⟩,
      ⟨7, [], false, ⟨(some 41), .load true 32 (.tmp 4), none⟩⟩,
      ⟨9, [], false, ⟨(some 43), .move (.tmp 1), none⟩⟩,
      ⟨10, [], false, ⟨(some 44), .load true 32 (.tmp 5), none⟩⟩,
      ⟨2, [0, 1], true, ⟨(some 36), .call k_buffer_Buffer_Write [(.tmp 34), (.const (.int .i64 2)), (.tmp 35)], none⟩⟩,
      ⟨5, [3, 4, 2, 0, 1], true, ⟨(some 39), .call k_buffer_Buffer_Write [(.tmp 37), (.const (.int .i64 4)), (.tmp 38)], none⟩⟩,
      ⟨8, [6, 7, 5, 3, 4, 2, 0, 1], true, ⟨(some 42), .call k_buffer_Buffer_Write [(.tmp 40), (.const (.int .i64 1)), (.tmp 41)], none⟩⟩,
      ⟨11, [9, 10, 8, 6, 7, 5, 3, 4, 2, 0, 1], true, ⟨(some 45), .call k_buffer_Buffer_Write [(.tmp 43), (.const (.int .i64 4)), (.tmp 44)], none⟩⟩,
      ⟨12, [2, 11, 0, 1, 9, 10, 8, 6, 7, 5, 3, 4], false, ⟨(some 6), .move (.tmp 36), none⟩⟩,
      ⟨13, [5, 12, 0, 1, 2, 3, 4, 11, 9, 10, 8, 6, 7], false, ⟨(some 7), .move (.tmp 39), none⟩⟩,
      ⟨14, [8, 13, 0, 1, 2, 3, 4, 5, 6, 7, 12, 11, 9, 10], false, ⟨(some 8), .move (.tmp 42), none⟩⟩,
      ⟨15, [11, 14, 0, 1, 2, 3, 4, 5, 6, 7, 8, 9, 10, 12, 13], false, ⟨(some 9), .move (.tmp 45), none⟩⟩]) <|
  .seq (.reg [⟨(some 47), .move (.tmp 1), none⟩,
      ⟨(some 48), .call k_buffer_Buffer_Read [(.tmp 47), (.const (.int .i64 4))], none⟩,
      ⟨(some 46), .move (.tmp 48), none⟩,
      ⟨(some 49), .extract (.tmp 46) 0, none⟩,
      ⟨(some 50), .extract (.tmp 46) 1, none⟩,
      ⟨(some 51), .extract (.tmp 46) 2, none⟩,
      ⟨(some 10), .alloc (List.replicate 32 (.int .u8 0)), none⟩,
      ⟨none, .store 32 (.tmp 10) (.tmp 49), none⟩,
      ⟨(some 11), .move (.tmp 50), none⟩,
      ⟨(some 12), .move (.tmp 51), none⟩]) <|
  .seq (.regd [⟨0, [], false, ⟨(some 52), .move (.tmp 6), none⟩⟩,
      ⟨1, [0], false, ⟨(some 53), .bin .eql (.tmp 52) (.const (.int .i64 160)), none⟩⟩,
      ⟨2, [1, 0], false, ⟨(some 54), .move (.tmp 53), none⟩⟩,
      ⟨3, [2, 1, 0], false, ⟨(some 55), .move (.tmp 7), some (54, true)⟩⟩,
      ⟨4, [3, 2, 1, 0], false, ⟨(some 56), .bin .eql (.tmp 55) (.const (.int .i64 0)), some (54, true)⟩⟩,
      ⟨5, [2, 4, 1, 0, 3], false, ⟨(some 57), .pick (.tmp 54) (.tmp 56) (.const (.bool false)), none⟩⟩,
      ⟨6, [5, 2, 4, 1, 0, 3], false, ⟨(some 58), .move (.tmp 57), none⟩⟩,
      ⟨7, [6, 5, 2, 4, 1, 0, 3], false, ⟨(some 59), .move (.tmp 8), some (58, true)⟩⟩,
      ⟨8, [7, 6, 5, 2, 4, 1, 0, 3], false, ⟨(some 60), .bin .eql (.tmp 59) (.const (.int .i64 0)), some (58, true)⟩⟩,
      ⟨9, [6, 8, 5, 2, 4, 1, 0, 3, 7], false, ⟨(some 61), .pick (.tmp 58) (.tmp 60) (.const (.bool false)), none⟩⟩,
      ⟨10, [9, 6, 8, 5, 2, 4, 1, 0, 3, 7], false, ⟨(some 62), .move (.tmp 61), none⟩⟩,
      ⟨11, [10, 9, 6, 8, 5, 2, 4, 1, 0, 3, 7], false, ⟨(some 63), .move (.tmp 9), some (62, true)⟩⟩,
      ⟨12, [11, 10, 9, 6, 8, 5, 2, 4, 1, 0, 3, 7], false, ⟨(some 64), .bin .eql (.tmp 63) (.const (.int .i64 0)), some (62, true)⟩⟩,
      ⟨13, [10, 12, 9, 6, 8, 5, 2, 4, 1, 0, 3, 7, 11], false, ⟨(some 65), .pick (.tmp 62) (.tmp 64) (.const (.bool false)), none⟩⟩,
      ⟨14, [13, 10, 12, 9, 6, 8, 5, 2, 4, 1, 0, 3, 7, 11], false, ⟨(some 66), .move (.tmp 65), none⟩⟩,
      ⟨15, [14, 13, 10, 12, 9, 6, 8, 5, 2, 4, 1, 0, 3, 7, 11], false, ⟨(some 67), .load true 32 (.tmp 10), some (66, true)⟩⟩,
      ⟨16, [14, 13, 10, 12, 9, 6, 8, 5, 2, 4, 1, 0, 3, 7, 11], false, ⟨(some 68), .load true 32 (.tmp 5), some (66, true)⟩⟩,
      ⟨17, [15, 16, 14, 13, 10, 12, 9, 6, 8, 5, 2, 4, 1, 0, 3, 7, 11], false, ⟨(some 69), .eqv false (.agg (List.replicate 32 false)) (.tmp 67) (.tmp 68), some (66, true)⟩⟩,
      ⟨18, [14, 17, 13, 10, 12, 9, 6, 8, 5, 2, 4, 1, 0, 3, 7, 11, 15, 16], false, ⟨(some 70), .pick (.tmp 66) (.tmp 69) (.const (.bool false)), none⟩⟩,
      ⟨19, [18, 14, 17, 13, 10, 12, 9, 6, 8, 5, 2, 4, 1, 0, 3, 7, 11, 15, 16], false, ⟨(some 71), .move (.tmp 70), none⟩⟩,
      ⟨20, [19, 18, 14, 17, 13, 10, 12, 9, 6, 8, 5, 2, 4, 1, 0, 3, 7, 11, 15, 16], false, ⟨(some 72), .move (.tmp 11), some (71, true)⟩⟩,
      ⟨21, [19, 20, 18, 14, 17, 13, 10, 12, 9, 6, 8, 5, 2, 4, 1, 0, 3, 7, 11, 15, 16], false, ⟨(some 73), .pick (.tmp 71) (.tmp 72) (.const (.bool false)), none⟩⟩,
      ⟨22, [21, 19, 20, 18, 14, 17, 13, 10, 12, 9, 6, 8, 5, 2, 4, 1, 0, 3, 7, 11, 15, 16], false, ⟨(some 74), .move (.tmp 73), none⟩⟩,
      ⟨23, [22, 21, 19, 20, 18, 14, 17, 13, 10, 12, 9, 6, 8, 5, 2, 4, 1, 0, 3, 7, 11, 15, 16], false, ⟨(some 75), .move (.tmp 12), some (74, true)⟩⟩,
      ⟨24, [23, 22, 21, 19, 20, 18, 14, 17, 13, 10, 12, 9, 6, 8, 5, 2, 4, 1, 0, 3, 7, 11, 15, 16], false, ⟨(some 76), .bin .eql (.tmp 75) (.const (.int .i64 0)), some (74, true)⟩⟩,
      ⟨25, [22, 24, 21, 19, 20, 18, 14, 17, 13, 10, 12, 9, 6, 8, 5, 2, 4, 1, 0, 3, 7, 11, 15, 16, 23], false, ⟨(some 77), .pick (.tmp 74) (.tmp 76) (.const (.bool false)), none⟩⟩,
      ⟨26, [25, 22, 24, 21, 19, 20, 18, 14, 17, 13, 10, 12, 9, 6, 8, 5, 2, 4, 1, 0, 3, 7, 11, 15, 16, 23], false, ⟨(some 78), .move (.tmp 77), none⟩⟩,
      ⟨27, [26, 25, 22, 24, 21, 19, 20, 18, 14, 17, 13, 10, 12, 9, 6, 8, 5, 2, 4, 1, 0, 3, 7, 11, 15, 16, 23], false, ⟨(some 79), .move (.tmp 1), some (78, true)⟩⟩,
      ⟨28, [27, 26, 25, 22, 24, 21, 19, 20, 18, 14, 17, 13, 10, 12, 9, 6, 8, 5, 2, 4, 1, 0, 3, 7, 11, 15, 16, 23], true, ⟨(some 80), .call k_buffer_Buffer_Len [(.tmp 79)], some (78, true)⟩⟩,
      ⟨29, [28, 26, 27, 25, 22, 24, 21, 19, 20, 18, 14, 17, 13, 10, 12, 9, 6, 8, 5, 2, 4, 1, 0, 3, 7, 11, 15, 16, 23], false, ⟨(some 81), .bin .eql (.tmp 80) (.const (.int .i64 2)), some (78, true)⟩⟩,
      ⟨30, [26, 29, 25, 22, 24, 21, 19, 20, 18, 14, 17, 13, 10, 12, 9, 6, 8, 5, 2, 4, 1, 0, 3, 7, 11, 15, 16, 23, 28, 27], false, ⟨(some 82), .pick (.tmp 78) (.tmp 81) (.const (.bool false)), none⟩⟩,
      ⟨31, [30, 28, 26, 29, 25, 22, 24, 21, 19, 20, 18, 14, 17, 13, 10, 12, 9, 6, 8, 5, 2, 4, 1, 0, 3, 7, 11, 15, 16, 23, 27], false, ⟨(some 83), .move (.tmp 82), none⟩⟩,
      ⟨32, [31, 30, 28, 26, 29, 25, 22, 24, 21, 19, 20, 18, 14, 17, 13, 10, 12, 9, 6, 8, 5, 2, 4, 1, 0, 3, 7, 11, 15, 16, 23, 27], false, ⟨(some 84), .move (.tmp 1), some (83, true)⟩⟩,
      ⟨34, [31, 30, 28, 26, 29, 25, 22, 24, 21, 19, 20, 18, 14, 17, 13, 10, 12, 9, 6, 8, 5, 2, 4, 1, 0, 3, 7, 11, 15, 16, 23, 27], false, ⟨(some 86), .load true 32 (.tmp 4), some (83, true)⟩⟩,
      ⟨35, [34, 31, 30, 28, 26, 29, 25, 22, 24, 21, 19, 20, 18, 14, 17, 13, 10, 12, 9, 6, 8, 5, 2, 4, 1, 0, 3, 7, 11, 15, 16, 23, 27], false, ⟨(some 87), .build [(.int .i64 0), (.int .u8 0), (.int .u8 0), (.int .u8 0), (.int .u8 0), (.int .u8 0), (.int .u8 0), (.int .u8 0), (.int .u8 0), (.int .u8 0), (.int .u8 0), (.int .u8 0), (.int .u8 0), (.int .u8 0), (.int .u8 0), (.int .u8 0), (.int .u8 0), (.int .u8 0), (.int .u8 0), (.int .u8 0), (.int .u8 0), (.int .u8 0), (.int .u8 0), (.int .u8 0), (.int .u8 0), (.int .u8 0), (.int .u8 0), (.int .u8 0), (.int .u8 0), (.int .u8 0), (.int .u8 0), (.int .u8 0), (.int .u8 0)] [(0, 1, (.const (.int .i64 1))), (1, 32, (.tmp 86))], some (83, true)⟩⟩,
      ⟨36, [31, 30, 28, 26, 29, 25, 22, 24, 21, 19, 20, 18, 14, 17, 13, 10, 12, 9, 6, 8, 5, 2, 4, 1, 0, 3, 7, 11, 15, 16, 23, 27], false, ⟨(some 88), .load true 32 (.tmp 5), some (83, true)⟩⟩,
      ⟨37, [36, 31, 30, 28, 26, 29, 25, 22, 24, 21, 19, 20, 18, 14, 17, 13, 10, 12, 9, 6, 8, 5, 2, 4, 1, 0, 3, 7, 11, 15, 16, 23, 27], false, ⟨(some 89), .build [(.int .i64 0), (.int .u8 0), (.int .u8 0), (.int .u8 0), (.int .u8 0), (.int .u8 0), (.int .u8 0), (.int .u8 0), (.int .u8 0), (.int .u8 0), (.int .u8 0), (.int .u8 0), (.int .u8 0), (.int .u8 0), (.int .u8 0), (.int .u8 0), (.int .u8 0), (.int .u8 0), (.int .u8 0), (.int .u8 0), (.int .u8 0), (.int .u8 0), (.int .u8 0), (.int .u8 0), (.int .u8 0), (.int .u8 0), (.int .u8 0), (.int .u8 0), (.int .u8 0), (.int .u8 0), (.int .u8 0), (.int .u8 0), (.int .u8 0)] [(0, 1, (.const (.int .i64 4))), (1, 32, (.tmp 88))], some (83, true)⟩⟩,
      ⟨38, [35, 37, 31, 34, 30, 28, 26, 29, 25, 22, 24, 21, 19, 20, 18, 14, 17, 13, 10, 12, 9, 6, 8, 5, 2, 4, 1, 0, 3, 7, 11, 15, 16, 23, 27, 36], false, ⟨(some 90), .buildSlice 2 33 [(.int .i64 0), (.int .u8 0), (.int .u8 0), (.int .u8 0), (.int .u8 0), (.int .u8 0), (.int .u8 0), (.int .u8 0), (.int .u8 0), (.int .u8 0), (.int .u8 0), (.int .u8 0), (.int .u8 0), (.int .u8 0), (.int .u8 0), (.int .u8 0), (.int .u8 0), (.int .u8 0), (.int .u8 0), (.int .u8 0), (.int .u8 0), (.int .u8 0), (.int .u8 0), (.int .u8 0), (.int .u8 0), (.int .u8 0), (.int .u8 0), (.int .u8 0), (.int .u8 0), (.int .u8 0), (.int .u8 0), (.int .u8 0), (.int .u8 0), (.int .i64 0), (.int .u8 0), (.int .u8 0), (.int .u8 0), (.int .u8 0), (.int .u8 0), (.int .u8 0), (.int .u8 0), (.int .u8 0), (.int .u8 0), (.int .u8 0), (.int .u8 0), (.int .u8 0), (.int .u8 0), (.int .u8 0), (.int .u8 0), (.int .u8 0), (.int .u8 0), (.int .u8 0), (.int .u8 0), (.int .u8 0), (.int .u8 0), (.int .u8 0), (.int .u8 0), (.int .u8 0), (.int .u8 0), (.int .u8 0), (.int .u8 0), (.int .u8 0), (.int .u8 0), (.int .u8 0), (.int .u8 0), (.int .u8 0)] [(0, 33, (.tmp 87)), (33, 33, (.tmp 89))], some (83, true)⟩⟩,
      ⟨33, [32, 31, 30, 28, 26, 29, 25, 22, 24, 21, 19, 20, 18, 14, 17, 13, 10, 12, 9, 6, 8, 5, 2, 4, 1, 0, 3, 7, 11, 15, 16, 23, 27], true, ⟨(some 85), .call k_buffer_Buffer_Images [(.tmp 84)], some (83, true)⟩⟩,
      ⟨39, [33, 38, 31, 32, 30, 28, 26, 29, 25, 22, 24, 21, 19, 20, 18, 14, 17, 13, 10, 12, 9, 6, 8, 5, 2, 4, 1, 0, 3, 7, 11, 15, 16, 23, 27, 35, 37, 34, 36], true, ⟨(some 91), .call k_wicketref16_Same [(.tmp 85), (.tmp 90)], some (83, true)⟩⟩,
      ⟨40, [31, 39, 30, 28, 26, 29, 25, 22, 24, 21, 19, 20, 18, 14, 17, 13, 10, 12, 9, 6, 8, 5, 2, 4, 1, 0, 3, 7, 11, 15, 16, 23, 27, 33, 38, 32, 35, 37, 34, 36], false, ⟨(some 92), .pick (.tmp 83) (.tmp 91) (.const (.bool false)), none⟩⟩,
      ⟨41, [40, 39, 0, 1, 2, 3, 4, 5, 6, 7, 8, 9, 10, 11, 12, 13, 14, 15, 16, 17, 18, 19, 20, 21, 22, 23, 24, 25, 26, 27, 28, 29, 30, 31, 32, 33, 34, 35, 36, 37, 38], false, ⟨(some 0), .move (.tmp 92), none⟩⟩]) <|
  .ret, none⟩
-- f6: wicket/wicketref05.Has
def c_wicketref05_Has_S0 : AC :=
  .reg [⟨(some 4), .move (.const (.bool false)), none⟩]
def c_wicketref05_Has_S1 : AC :=
  .reg [⟨(some 5), .move (.const (.int .i64 0)), none⟩]
def c_wicketref05_Has_S2 : AC :=
  .reg [⟨(some 6), .move (.tmp 5), none⟩,
    ⟨(some 7), .move (.tmp 0), none⟩,
    ⟨(some 8), .lenS (.tmp 7), none⟩,
    ⟨(some 9), .bin .lss (.tmp 6) (.tmp 8), none⟩]
def c_wicketref05_Has_S3 : AC :=
  .seq c_wicketref05_Has_S2 <|
  .cond (.tmp 9)
    (.skip)
    (.exit 0)
def c_wicketref05_Has_S4 : AC :=
  .reg [⟨(some 12), .move (.tmp 0), none⟩,
    ⟨(some 13), .move (.tmp 5), none⟩,
    ⟨(some 14), .idxSlice 1 (.tmp 12) (.tmp 13), none⟩,
    ⟨(some 15), .load false 1 (.tmp 14), none⟩,
    ⟨(some 16), .move (.tmp 1), none⟩,
    ⟨(some 17), .bin .eql (.tmp 15) (.tmp 16), none⟩]
def c_wicketref05_Has_S5 : AC :=
  .reg [⟨(some 4), .move (.const (.bool true)), none⟩]
def c_wicketref05_Has_S6 : AC :=
  .block 1 <|
    .seq c_wicketref05_Has_S4 <|
    .cond (.tmp 17)
      (.seq c_wicketref05_Has_S5 <|
      .ret)
      (.skip)
def c_wicketref05_Has_L7 : AC :=
  .seq c_wicketref05_Has_S3 <|
  .seq c_wicketref05_Has_S6 <|
  .reg [⟨(some 10), .move (.tmp 5), none⟩,
    ⟨(some 11), .bin .add (.tmp 10) (.const (.int .i64 1)), none⟩,
    ⟨(some 5), .move (.tmp 11), none⟩]
def c_wicketref05_Has_S8 : AC :=
  .seq c_wicketref05_Has_S1 <|
  .block 0 <|
    .loop c_wicketref05_Has_L7
def c_wicketref05_Has_S9 : AC :=
  .reg [⟨(some 4), .move (.const (.bool false)), none⟩]
def c_wicketref05_Has : AFun := ⟨[.tmp 4],
  .seq c_wicketref05_Has_S0 <|
  .seq c_wicketref05_Has_S8 <|
  .seq c_wicketref05_Has_S9 <|
  .ret, none⟩
-- f7: (*wicket/buffer.Buffer).Write
def c_buffer_Buffer_Write : AFun := ⟨[.tmp 6],
  .seq (.reg [⟨(some 5), .box (.tmp 2), none⟩,
      ⟨(some 6), .move (.const (.int .i64 0)), none⟩]) <|
  .seq (.seq (.reg [⟨(some 8), .move (.tmp 0), none⟩,
        ⟨(some 9), .move (.tmp 1), none⟩,
        ⟨(some 10), .call k_buffer_Buffer_refused [(.tmp 8), (.tmp 9)], none⟩,
        ⟨(some 7), .move (.tmp 10), none⟩]) <|
    .seq (.reg [⟨(some 11), .move (.tmp 7), none⟩,
        ⟨(some 12), .bin .neq (.tmp 11) (.const (.int .i64 0)), none⟩]) <|
    .cond (.tmp 12)
      (.seq (.reg [⟨(some 13), .move (.tmp 7), none⟩,
          ⟨(some 6), .move (.tmp 13), none⟩]) <|
      .ret)
      (.skip)) <|
  .seq (.regd [⟨0, [], false, ⟨(some 14), .move (.tmp 0), none⟩⟩,
      ⟨1, [0], false, ⟨(some 15), .nilCheck (.tmp 14), none⟩⟩,
      ⟨2, [1, 0], false, ⟨(some 16), .fieldAddr 1 (.tmp 15), none⟩⟩,
      ⟨3, [2, 1, 0], false, ⟨(some 17), .load false 1 (.tmp 16), none⟩⟩,
      ⟨4, [], false, ⟨(some 18), .move (.tmp 1), none⟩⟩,
      ⟨5, [], false, ⟨(some 19), .load true 32 (.tmp 5), none⟩⟩,
      ⟨6, [3, 4, 5, 0, 1, 2], true, ⟨none, .mapUpdate .i64 (.tmp 17) (.tmp 18) (.tmp 19), none⟩⟩]) <|
  .seq (.reg [⟨(some 6), .move (.const (.int .i64 0)), none⟩]) <|
  .ret, none⟩
-- f8: (*wicket/buffer.Buffer).Read
def c_buffer_Buffer_Read : AFun := ⟨[.cell true 32 4, .tmp 5, .tmp 6],
  .seq (.reg [⟨(some 4), .alloc (List.replicate 32 (.int .u8 0)), none⟩,
      ⟨(some 5), .move (.const (.bool false)), none⟩,
      ⟨(some 6), .move (.const (.int .i64 0)), none⟩]) <|
  .seq (.seq (.reg [⟨(some 8), .move (.tmp 0), none⟩,
        ⟨(some 9), .move (.tmp 1), none⟩,
        ⟨(some 10), .call k_buffer_Buffer_refused [(.tmp 8), (.tmp 9)], none⟩,
        ⟨(some 7), .move (.tmp 10), none⟩]) <|
    .seq (.reg [⟨(some 11), .move (.tmp 7), none⟩,
        ⟨(some 12), .bin .neq (.tmp 11) (.const (.int .i64 0)), none⟩]) <|
    .cond (.tmp 12)
      (.seq (.reg [⟨(some 13), .build (List.replicate 32 (.int .u8 0)) [], none⟩,
          ⟨(some 14), .move (.tmp 7), none⟩,
          ⟨none, .store 32 (.tmp 4) (.tmp 13), none⟩,
          ⟨(some 5), .move (.const (.bool false)), none⟩,
          ⟨(some 6), .move (.tmp 14), none⟩]) <|
      .ret)
      (.skip)) <|
  .seq (.reg [⟨(some 16), .move (.tmp 0), none⟩,
      ⟨(some 17), .nilCheck (.tmp 16), none⟩,
      ⟨(some 18), .fieldAddr 1 (.tmp 17), none⟩,
      ⟨(some 19), .load false 1 (.tmp 18), none⟩,
      ⟨(some 20), .move (.tmp 1), none⟩,
      ⟨(some 21), .lookup .i64 (.agg ⟨(List.replicate 32 (.int .u8 0))⟩) (.tmp 19) (.tmp 20) true, none⟩,
      ⟨(some 15), .move (.tmp 21), none⟩,
      ⟨(some 22), .extract (.tmp 15) 0, none⟩,
      ⟨(some 23), .extract (.tmp 15) 1, none⟩,
      ⟨none, .store 32 (.tmp 4) (.tmp 22), none⟩,
      ⟨(some 5), .move (.tmp 23), none⟩]) <|
  .seq (.reg [⟨(some 24), .load true 32 (.tmp 4), none⟩,
      ⟨(some 25), .move (.tmp 5), none⟩,
      ⟨none, .store 32 (.tmp 4) (.tmp 24), none⟩,
      ⟨(some 5), .move (.tmp 25), none⟩,
      ⟨(some 6), .move (.const (.int .i64 0)), none⟩]) <|
  .ret, none⟩
-- f9: (*wicket/buffer.Buffer).Images
def c_buffer_Buffer_Images_S0 : AC :=
  .reg [⟨(some 2), .move (.const (.slice none 0 0)), none⟩]
def c_buffer_Buffer_Images_S1 : AC :=
  .reg [⟨(some 8), .move (.tmp 0), none⟩,
    ⟨(some 9), .eqv false .ptr (.tmp 8) (.const (.pointer none)), none⟩]
def c_buffer_Buffer_Images_S2 : AC :=
  .reg [⟨(some 2), .move (.const (.slice none 0 0)), none⟩]
def c_buffer_Buffer_Images_S3 : AC :=
  .seq c_buffer_Buffer_Images_S1 <|
  .cond (.tmp 9)
    (.seq c_buffer_Buffer_Images_S2 <|
    .ret)
    (.skip)
def c_buffer_Buffer_Images_S4 : AC :=
  .reg [⟨(some 3), .move (.const (.slice none 0 0)), none⟩]
def c_buffer_Buffer_Images_S5 : AC :=
  .reg [⟨(some 10), .move (.tmp 0), none⟩,
    ⟨(some 11), .nilCheck (.tmp 10), none⟩,
    ⟨(some 12), .fieldAddr 0 (.tmp 11), none⟩,
    ⟨(some 13), .load false 1 (.tmp 12), none⟩,
    ⟨(some 14), .lenS (.tmp 13), none⟩,
    ⟨(some 15), .move (.const (.int .i64 0)), none⟩]
def c_buffer_Buffer_Images_S6 : AC :=
  .reg [⟨(some 16), .bin .lss (.tmp 15) (.tmp 14), none⟩]
def c_buffer_Buffer_Images_S7 : AC :=
  .cond (.tmp 16)
    (.skip)
    (.exit 0)
def c_buffer_Buffer_Images_S8 : AC :=
  .reg [⟨(some 17), .idxSlice 1 (.tmp 13) (.tmp 15), none⟩,
    ⟨(some 18), .load false 1 (.tmp 17), none⟩,
    ⟨(some 5), .move (.tmp 18), none⟩]
def c_buffer_Buffer_Images_S9 : AC :=
  .reg [⟨(some 20), .move (.tmp 0), none⟩,
    ⟨(some 21), .nilCheck (.tmp 20), none⟩,
    ⟨(some 22), .fieldAddr 1 (.tmp 21), none⟩,
    ⟨(some 23), .load false 1 (.tmp 22), none⟩,
    ⟨(some 24), .move (.tmp 5), none⟩,
    ⟨(some 25), .lookup .i64 (.agg ⟨(List.replicate 32 (.int .u8 0))⟩) (.tmp 23) (.tmp 24) true, none⟩,
    ⟨(some 19), .move (.tmp 25), none⟩,
    ⟨(some 26), .extract (.tmp 19) 0, none⟩,
    ⟨(some 27), .extract (.tmp 19) 1, none⟩,
    ⟨(some 6), .alloc (List.replicate 32 (.int .u8 0)), none⟩,
    ⟨none, .store 32 (.tmp 6) (.tmp 26), none⟩,
    ⟨(some 7), .move (.tmp 27), none⟩]
def c_buffer_Buffer_Images_S10 : AC :=
  .reg [⟨(some 28), .move (.tmp 7), none⟩]
def c_buffer_Buffer_Images_S11 : AC :=
  .block 1 <|
    .seq c_buffer_Buffer_Images_S8 <|
    .seq c_buffer_Buffer_Images_S9 <|
    .seq c_buffer_Buffer_Images_S10 <|
    .cond (.tmp 28)
      (.reg [⟨(some 29), .move (.tmp 3), none⟩,
        ⟨(some 30), .move (.tmp 5), none⟩,
        ⟨(some 31), .load true 32 (.tmp 6), none⟩,
        ⟨(some 32), .build [(.int .i64 0), (.int .u8 0), (.int .u8 0), (.int .u8 0), (.int .u8 0), (.int .u8 0), (.int .u8 0), (.int .u8 0), (.int .u8 0), (.int .u8 0), (.int .u8 0), (.int .u8 0), (.int .u8 0), (.int .u8 0), (.int .u8 0), (.int .u8 0), (.int .u8 0), (.int .u8 0), (.int .u8 0), (.int .u8 0), (.int .u8 0), (.int .u8 0), (.int .u8 0), (.int .u8 0), (.int .u8 0), (.int .u8 0), (.int .u8 0), (.int .u8 0), (.int .u8 0), (.int .u8 0), (.int .u8 0), (.int .u8 0), (.int .u8 0)] [(0, 1, (.tmp 30)), (1, 32, (.tmp 31))], none⟩,
        ⟨(some 33), .buildSlice 1 33 [(.int .i64 0), (.int .u8 0), (.int .u8 0), (.int .u8 0), (.int .u8 0), (.int .u8 0), (.int .u8 0), (.int .u8 0), (.int .u8 0), (.int .u8 0), (.int .u8 0), (.int .u8 0), (.int .u8 0), (.int .u8 0), (.int .u8 0), (.int .u8 0), (.int .u8 0), (.int .u8 0), (.int .u8 0), (.int .u8 0), (.int .u8 0), (.int .u8 0), (.int .u8 0), (.int .u8 0), (.int .u8 0), (.int .u8 0), (.int .u8 0), (.int .u8 0), (.int .u8 0), (.int .u8 0), (.int .u8 0), (.int .u8 0), (.int .u8 0)] [(0, 33, (.tmp 32))], none⟩,
        ⟨(some 34), .append 40 33 (.tmp 29) (.tmp 33), none⟩,
        ⟨(some 3), .move (.tmp 34), none⟩])
      (.skip)
def c_buffer_Buffer_Images_L12 : AC :=
  .seq c_buffer_Buffer_Images_S6 <|
  .seq c_buffer_Buffer_Images_S7 <|
  .seq c_buffer_Buffer_Images_S11 <|
  .reg [⟨(some 35), .bin .add (.tmp 15) (.const (.int .i64 1)), none⟩,
    ⟨(some 15), .move (.tmp 35), none⟩]
def c_buffer_Buffer_Images_S13 : AC :=
  .seq c_buffer_Buffer_Images_S5 <|
  .block 0 <|
    .loop c_buffer_Buffer_Images_L12
def c_buffer_Buffer_Images_S14 : AC :=
  .reg [⟨(some 36), .move (.tmp 3), none⟩,
    ⟨(some 2), .move (.tmp 36), none⟩]
def c_buffer_Buffer_Images : AFun := ⟨[.tmp 2],
  .seq c_buffer_Buffer_Images_S0 <|
  .seq c_buffer_Buffer_Images_S3 <|
  .seq c_buffer_Buffer_Images_S4 <|
  .seq c_buffer_Buffer_Images_S13 <|
  .seq c_buffer_Buffer_Images_S14 <|
  .ret, none⟩
-- f10: (*wicket/buffer.Buffer).Len
def c_buffer_Buffer_Len : AFun := ⟨[.tmp 2],
  .seq (.reg [⟨(some 2), .move (.const (.int .i64 0)), none⟩]) <|
  .seq (.seq (.reg [⟨(some 3), .move (.tmp 0), none⟩,
        ⟨(some 4), .eqv false .ptr (.tmp 3) (.const (.pointer none)), none⟩]) <|
    .cond (.tmp 4)
      (.seq (.reg [⟨(some 2), .move (.const (.int .i64 0)), none⟩]) <|
      .ret)
      (.skip)) <|
  .seq (.reg [⟨(some 5), .move (.tmp 0), none⟩,
      ⟨(some 6), .nilCheck (.tmp 5), none⟩,
      ⟨(some 7), .fieldAddr 1 (.tmp 6), none⟩,
      ⟨(some 8), .load false 1 (.tmp 7), none⟩,
      ⟨(some 9), .lenM (.tmp 8), none⟩,
      ⟨(some 2), .move (.tmp 9), none⟩]) <|
  .ret, none⟩
-- f11: wicket/wicketref16.Same
def c_wicketref16_Same_S0 : AC :=
  .reg [⟨(some 4), .move (.const (.bool false)), none⟩]
def c_wicketref16_Same_S1 : AC :=
  .reg [⟨(some 6), .move (.tmp 0), none⟩,
    ⟨(some 7), .lenS (.tmp 6), none⟩,
    ⟨(some 8), .move (.tmp 1), none⟩,
    ⟨(some 9), .lenS (.tmp 8), none⟩,
    ⟨(some 10), .bin .neq (.tmp 7) (.tmp 9), none⟩]
def c_wicketref16_Same_S2 : AC :=
  .reg [⟨(some 4), .move (.const (.bool false)), none⟩]
def c_wicketref16_Same_S3 : AC :=
  .seq c_wicketref16_Same_S1 <|
  .cond (.tmp 10)
    (.seq c_wicketref16_Same_S2 <|
    .ret)
    (.skip)
def c_wicketref16_Same_S4 : AC :=
  .reg [⟨(some 5), .move (.const (.int .i64 0)), none⟩]
def c_wicketref16_Same_S5 : AC :=
  .reg [⟨(some 11), .move (.tmp 5), none⟩,
    ⟨(some 12), .move (.tmp 0), none⟩,
    ⟨(some 13), .lenS (.tmp 12), none⟩,
    ⟨(some 14), .bin .lss (.tmp 11) (.tmp 13), none⟩]
def c_wicketref16_Same_S6 : AC :=
  .seq c_wicketref16_Same_S5 <|
  .cond (.tmp 14)
    (.skip)
    (.exit 0)
def c_wicketref16_Same_S7 : AC :=
  .regd [⟨0, [], false, ⟨(some 17), .move (.tmp 0), none⟩⟩,
    ⟨1, [], false, ⟨(some 18), .move (.tmp 5), none⟩⟩,
    ⟨2, [0, 1], false, ⟨(some 19), .idxSlice 33 (.tmp 17) (.tmp 18), none⟩⟩,
    ⟨3, [2, 0, 1], false, ⟨(some 20), .load true 33 (.tmp 19), none⟩⟩,
    ⟨4, [], false, ⟨(some 21), .move (.tmp 1), none⟩⟩,
    ⟨5, [], false, ⟨(some 22), .move (.tmp 5), none⟩⟩,
    ⟨6, [4, 5], false, ⟨(some 23), .idxSlice 33 (.tmp 21) (.tmp 22), none⟩⟩,
    ⟨7, [6, 4, 5], false, ⟨(some 24), .load true 33 (.tmp 23), none⟩⟩,
    ⟨8, [3, 7, 2, 0, 1, 6, 4, 5], false, ⟨(some 25), .eqv true (.agg (List.replicate 33 false)) (.tmp 20) (.tmp 24), none⟩⟩]
def c_wicketref16_Same_S8 : AC :=
  .reg [⟨(some 4), .move (.const (.bool false)), none⟩]
def c_wicketref16_Same_S9 : AC :=
  .block 1 <|
    .seq c_wicketref16_Same_S7 <|
    .cond (.tmp 25)
      (.seq c_wicketref16_Same_S8 <|
      .ret)
      (.skip)
def c_wicketref16_Same_L10 : AC :=
  .seq c_wicketref16_Same_S6 <|
  .seq c_wicketref16_Same_S9 <|
  .reg [⟨(some 15), .move (.tmp 5), none⟩,
    ⟨(some 16), .bin .add (.tmp 15) (.const (.int .i64 1)), none⟩,
    ⟨(some 5), .move (.tmp 16), none⟩]
def c_wicketref16_Same_S11 : AC :=
  .seq c_wicketref16_Same_S4 <|
  .block 0 <|
    .loop c_wicketref16_Same_L10
def c_wicketref16_Same_S12 : AC :=
  .reg [⟨(some 4), .move (.const (.bool true)), none⟩]
def c_wicketref16_Same : AFun := ⟨[.tmp 4],
  .seq c_wicketref16_Same_S0 <|
  .seq c_wicketref16_Same_S3 <|
  .seq c_wicketref16_Same_S11 <|
  .seq c_wicketref16_Same_S12 <|
  .ret, none⟩
-- f12: wicket/blocks.Is
def c_blocks_Is_S0 : AC :=
  .reg [⟨(some 2), .move (.const (.bool false)), none⟩]
def c_blocks_Is_S1 : AC :=
  .reg [⟨(some 4), .move (.tmp 0), none⟩,
    ⟨(some 5), .lenS (.tmp 4), none⟩,
    ⟨(some 6), .bin .lss (.tmp 5) (.const (.int .i64 1)), none⟩,
    ⟨(some 7), .move (.tmp 6), none⟩,
    ⟨(some 8), .move (.tmp 0), some (7, false)⟩,
    ⟨(some 9), .lenS (.tmp 8), some (7, false)⟩,
    ⟨(some 10), .bin .gtr (.tmp 9) (.const (.int .i64 16)), some (7, false)⟩,
    ⟨(some 11), .pick (.tmp 7) (.const (.bool true)) (.tmp 10), none⟩,
    ⟨(some 12), .move (.tmp 11), none⟩,
    ⟨(some 13), .move (.tmp 0), some (12, false)⟩,
    ⟨(some 14), .idxSlice 1 (.tmp 13) (.const (.int .i64 0)), some (12, false)⟩,
    ⟨(some 15), .load false 1 (.tmp 14), some (12, false)⟩,
    ⟨(some 16), .bin .lss (.tmp 15) (.const (.int .i64 0)), some (12, false)⟩,
    ⟨(some 17), .pick (.tmp 12) (.const (.bool true)) (.tmp 16), none⟩,
    ⟨(some 18), .move (.tmp 17), none⟩,
    ⟨(some 19), .move (.tmp 0), some (18, false)⟩,
    ⟨(some 20), .move (.tmp 0), some (18, false)⟩,
    ⟨(some 21), .lenS (.tmp 20), some (18, false)⟩,
    ⟨(some 22), .bin .sub (.tmp 21) (.const (.int .i64 1)), some (18, false)⟩,
    ⟨(some 23), .idxSlice 1 (.tmp 19) (.tmp 22), some (18, false)⟩,
    ⟨(some 24), .load false 1 (.tmp 23), some (18, false)⟩,
    ⟨(some 25), .bin .geq (.tmp 24) (.const (.int .i64 64)), some (18, false)⟩,
    ⟨(some 26), .pick (.tmp 18) (.const (.bool true)) (.tmp 25), none⟩]
def c_blocks_Is_S2 : AC :=
  .reg [⟨(some 2), .move (.const (.bool false)), none⟩]
def c_blocks_Is_S3 : AC :=
  .seq c_blocks_Is_S1 <|
  .cond (.tmp 26)
    (.seq c_blocks_Is_S2 <|
    .ret)
    (.skip)
def c_blocks_Is_S4 : AC :=
  .reg [⟨(some 3), .move (.const (.int .i64 1)), none⟩]
def c_blocks_Is_S5 : AC :=
  .reg [⟨(some 27), .move (.tmp 3), none⟩,
    ⟨(some 28), .move (.tmp 0), none⟩,
    ⟨(some 29), .lenS (.tmp 28), none⟩,
    ⟨(some 30), .bin .lss (.tmp 27) (.tmp 29), none⟩]
def c_blocks_Is_S6 : AC :=
  .seq c_blocks_Is_S5 <|
  .cond (.tmp 30)
    (.skip)
    (.exit 0)
def c_blocks_Is_S7 : AC :=
  .regd [⟨0, [], false, ⟨(some 33), .move (.tmp 0), none⟩⟩,
    ⟨1, [], false, ⟨(some 34), .move (.tmp 3), none⟩⟩,
    ⟨2, [0, 1], false, ⟨(some 35), .idxSlice 1 (.tmp 33) (.tmp 34), none⟩⟩,
    ⟨3, [2, 0, 1], false, ⟨(some 36), .load false 1 (.tmp 35), none⟩⟩,
    ⟨4, [], false, ⟨(some 37), .move (.tmp 0), none⟩⟩,
    ⟨5, [], false, ⟨(some 38), .move (.tmp 3), none⟩⟩,
    ⟨6, [5], false, ⟨(some 39), .bin .sub (.tmp 38) (.const (.int .i64 1)), none⟩⟩,
    ⟨7, [4, 6, 5], false, ⟨(some 40), .idxSlice 1 (.tmp 37) (.tmp 39), none⟩⟩,
    ⟨8, [7, 4, 6, 5], false, ⟨(some 41), .load false 1 (.tmp 40), none⟩⟩,
    ⟨9, [3, 8, 2, 0, 1, 7, 4, 6, 5], false, ⟨(some 42), .bin .leq (.tmp 36) (.tmp 41), none⟩⟩]
def c_blocks_Is_S8 : AC :=
  .reg [⟨(some 2), .move (.const (.bool false)), none⟩]
def c_blocks_Is_S9 : AC :=
  .block 1 <|
    .seq c_blocks_Is_S7 <|
    .cond (.tmp 42)
      (.seq c_blocks_Is_S8 <|
      .ret)
      (.skip)
def c_blocks_Is_L10 : AC :=
  .seq c_blocks_Is_S6 <|
  .seq c_blocks_Is_S9 <|
  .reg [⟨(some 31), .move (.tmp 3), none⟩,
    ⟨(some 32), .bin .add (.tmp 31) (.const (.int .i64 1)), none⟩,
    ⟨(some 3), .move (.tmp 32), none⟩]
def c_blocks_Is_S11 : AC :=
  .seq c_blocks_Is_S4 <|
  .block 0 <|
    .loop c_blocks_Is_L10
def c_blocks_Is_S12 : AC :=
  .reg [⟨(some 2), .move (.const (.bool true)), none⟩]
def c_blocks_Is : AFun := ⟨[.tmp 2],
  .seq c_blocks_Is_S0 <|
  .seq c_blocks_Is_S3 <|
  .seq c_blocks_Is_S11 <|
  .seq c_blocks_Is_S12 <|
  .ret, none⟩
-- f13: slices.Clone[[]int,int]
def c_slices_Clone_int_int : AFun := ⟨[.tmp 2],
  .seq (.reg [⟨(some 2), .move (.const (.slice none 0 0)), none⟩]) <|
  .seq (.seq (.reg [⟨(some 3), .move (.tmp 0), none⟩,
        ⟨(some 4), .eqv false .slice (.tmp 3) (.const (.slice none 0 0)), none⟩]) <|
    .cond (.tmp 4)
      (.seq (.reg [⟨(some 2), .move (.const (.slice none 0 0)), none⟩]) <|
      .ret)
      (.skip)) <|
  .seq (.reg [⟨(some 5), .buildSlice 0 1 [] [], none⟩,
      ⟨(some 6), .move (.tmp 0), none⟩,
      ⟨(some 7), .append 8 1 (.tmp 5) (.tmp 6), none⟩,
      ⟨(some 2), .move (.tmp 7), none⟩]) <|
  .ret, none⟩
-- f14: (*wicket/buffer.Buffer).refused
def c_buffer_Buffer_refused : AFun := ⟨[.tmp 4],
  .seq (.reg [⟨(some 4), .move (.const (.int .i64 0)), none⟩]) <|
  .seq (.block 0 <|
      .seq (.reg [⟨(some 6), .move (.tmp 0), none⟩,
          ⟨(some 7), .eqv false .ptr (.tmp 6) (.const (.pointer none)), none⟩,
          ⟨(some 5), .move (.tmp 7), none⟩]) <|
      .cond (.tmp 5)
        (.seq (.reg [⟨(some 4), .move (.const (.int .i64 1)), none⟩]) <|
        .ret)
        (.seq (.reg [⟨(some 9), .move (.tmp 0), none⟩,
            ⟨(some 10), .nilCheck (.tmp 9), none⟩,
            ⟨(some 11), .fieldAddr 0 (.tmp 10), none⟩,
            ⟨(some 12), .load false 1 (.tmp 11), none⟩,
            ⟨(some 13), .move (.tmp 1), none⟩,
            ⟨(some 14), .call k_blocks_Has [(.tmp 12), (.tmp 13)], none⟩,
            ⟨(some 15), .un .not (.tmp 14), none⟩,
            ⟨(some 8), .move (.tmp 15), none⟩]) <|
        .cond (.tmp 8)
          (.seq (.reg [⟨(some 4), .move (.const (.int .i64 160)), none⟩]) <|
          .ret)
          (.skip))) <|
  .seq (.reg [⟨(some 4), .move (.const (.int .i64 0)), none⟩]) <|
  .ret, none⟩
-- f15: wicket/blocks.Has
def c_blocks_Has : AFun := ⟨[.tmp 4],
  .seq (.reg [⟨(some 4), .move (.const (.bool false)), none⟩]) <|
  .seq (.reg [⟨(some 5), .move (.tmp 0), none⟩,
      ⟨(some 6), .move (.tmp 1), none⟩,
      ⟨(some 7), .call k_slices_Contains_int_int [(.tmp 5), (.tmp 6)], none⟩,
      ⟨(some 4), .move (.tmp 7), none⟩]) <|
  .ret, none⟩
-- f16: slices.Contains[[]int,int]
def c_slices_Contains_int_int : AFun := ⟨[.tmp 4],
  .seq (.reg [⟨(some 4), .move (.const (.bool false)), none⟩]) <|
  .seq (.reg [⟨(some 5), .move (.tmp 0), none⟩,
      ⟨(some 6), .move (.tmp 1), none⟩,
      ⟨(some 7), .call k_slices_Index_int_int [(.tmp 5), (.tmp 6)], none⟩,
      ⟨(some 8), .bin .geq (.tmp 7) (.const (.int .i64 0)), none⟩,
      ⟨(some 4), .move (.tmp 8), none⟩]) <|
  .ret, none⟩
-- f17: slices.Index[[]int,int]
def c_slices_Index_int_int_S0 : AC :=
  .reg [⟨(some 4), .move (.const (.int .i64 0)), none⟩]
def c_slices_Index_int_int_S1 : AC :=
  .reg [⟨(some 6), .move (.tmp 0), none⟩,
    ⟨(some 7), .lenS (.tmp 6), none⟩,
    ⟨(some 8), .move (.const (.int .i64 0)), none⟩]
def c_slices_Index_int_int_S2 : AC :=
  .reg [⟨(some 9), .bin .lss (.tmp 8) (.tmp 7), none⟩]
def c_slices_Index_int_int_S3 : AC :=
  .cond (.tmp 9)
    (.skip)
    (.exit 0)
def c_slices_Index_int_int_S4 : AC :=
  .reg [⟨(some 10), .move (.tmp 8), none⟩,
    ⟨(some 5), .move (.tmp 10), none⟩]
def c_slices_Index_int_int_S5 : AC :=
  .reg [⟨(some 11), .move (.tmp 1), none⟩,
    ⟨(some 12), .move (.tmp 0), none⟩,
    ⟨(some 13), .move (.tmp 5), none⟩,
    ⟨(some 14), .idxSlice 1 (.tmp 12) (.tmp 13), none⟩,
    ⟨(some 15), .load false 1 (.tmp 14), none⟩,
    ⟨(some 16), .bin .eql (.tmp 11) (.tmp 15), none⟩]
def c_slices_Index_int_int_S6 : AC :=
  .reg [⟨(some 17), .move (.tmp 5), none⟩,
    ⟨(some 4), .move (.tmp 17), none⟩]
def c_slices_Index_int_int_S7 : AC :=
  .block 1 <|
    .seq c_slices_Index_int_int_S4 <|
    .seq c_slices_Index_int_int_S5 <|
    .cond (.tmp 16)
      (.seq c_slices_Index_int_int_S6 <|
      .ret)
      (.skip)
def c_slices_Index_int_int_L8 : AC :=
  .seq c_slices_Index_int_int_S2 <|
  .seq c_slices_Index_int_int_S3 <|
  .seq c_slices_Index_int_int_S7 <|
  .reg [⟨(some 18), .bin .add (.tmp 8) (.const (.int .i64 1)), none⟩,
    ⟨(some 8), .move (.tmp 18), none⟩]
def c_slices_Index_int_int_S9 : AC :=
  .seq c_slices_Index_int_int_S1 <|
  .block 0 <|
    .loop c_slices_Index_int_int_L8
def c_slices_Index_int_int_S10 : AC :=
  .reg [⟨(some 4), .move (.const (.int .i64 (-1))), none⟩]
def c_slices_Index_int_int : AFun := ⟨[.tmp 4],
  .seq c_slices_Index_int_int_S0 <|
  .seq c_slices_Index_int_int_S9 <|
  .seq c_slices_Index_int_int_S10 <|
  .ret, none⟩
end Go.Proofs.Ytbndnokcffailaa
