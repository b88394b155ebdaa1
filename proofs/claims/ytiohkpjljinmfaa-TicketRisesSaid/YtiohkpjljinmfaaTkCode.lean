/- The abstract machine's code of the functions at hand, as it is compiled. -/
import Derived.Test.YtiohkpjljinmfaaSim
namespace Go.Proofs.Ytiohkpjljinmfaa
open Go
set_option maxRecDepth 100000
def k_wicketlaw11_TicketRises : Nat := 3
def k_wicketlaw11_awake : Nat := 4
def k_ticket_Queue_Put : Nat := 5
def k_ticket_Queue_Take : Nat := 6
def k_wicketlaw11_listed : Nat := 7
def k_ticket_Queue_Len : Nat := 8
def k_ticket_Queue_Place : Nat := 9
def k_wicketlaw11_same : Nat := 10
def k_ticket_Queue_First : Nat := 11
def k_slices_Delete_uint64_uint64 : Nat := 12
def k_ticket_Queue_All : Nat := 13
def k_ticket_Queue_All_1 : Nat := 14
-- f3: wicket/wicketlaw11.TicketRises
def c_wicketlaw11_TicketRises_S0 : AC :=
  .reg [⟨(some 4), .move (.const (.bool false)), none⟩]
def c_wicketlaw11_TicketRises_S1 : AC :=
  .reg [⟨(some 16), .call k_wicketlaw11_awake [], none⟩,
    ⟨(some 17), .un .not (.tmp 16), none⟩]
def c_wicketlaw11_TicketRises_S2 : AC :=
  .reg [⟨(some 4), .move (.const (.bool false)), none⟩]
def c_wicketlaw11_TicketRises_S3 : AC :=
  .seq c_wicketlaw11_TicketRises_S1 <|
  .cond (.tmp 17)
    (.seq c_wicketlaw11_TicketRises_S2 <|
    .ret)
    (.skip)
def c_wicketlaw11_TicketRises_S4 : AC :=
  .reg [⟨(some 18), .build [(.slice none 0 0), (.int .u64 0)] [], none⟩,
    ⟨(some 19), .box (.tmp 18), none⟩,
    ⟨(some 5), .move (.tmp 19), none⟩]
def c_wicketlaw11_TicketRises_S5 : AC :=
  .reg [⟨(some 6), .move (.const (.int .u64 0)), none⟩,
    ⟨(some 7), .move (.const (.int .u64 0)), none⟩]
def c_wicketlaw11_TicketRises_S6 : AC :=
  .reg [⟨(some 8), .move (.const (.int .i64 0)), none⟩]
def c_wicketlaw11_TicketRises_S7 : AC :=
  .reg [⟨(some 9), .move (.const (.int .i64 0)), none⟩]
def c_wicketlaw11_TicketRises_S8 : AC :=
  .reg [⟨(some 20), .move (.tmp 9), none⟩,
    ⟨(some 21), .move (.tmp 0), none⟩,
    ⟨(some 22), .lenS (.tmp 21), none⟩,
    ⟨(some 23), .bin .lss (.tmp 20) (.tmp 22), none⟩,
    ⟨(some 24), .move (.tmp 23), none⟩,
    ⟨(some 25), .move (.tmp 9), some (24, true)⟩,
    ⟨(some 26), .bin .lss (.tmp 25) (.const (.int .i64 200)), some (24, true)⟩,
    ⟨(some 27), .pick (.tmp 24) (.tmp 26) (.const (.bool false)), none⟩]
def c_wicketlaw11_TicketRises_S9 : AC :=
  .seq c_wicketlaw11_TicketRises_S8 <|
  .cond (.tmp 27)
    (.skip)
    (.exit 0)
def c_wicketlaw11_TicketRises_S10 : AC :=
  .reg [⟨(some 30), .move (.tmp 5), none⟩,
    ⟨(some 31), .move (.tmp 0), none⟩,
    ⟨(some 32), .move (.tmp 9), none⟩,
    ⟨(some 33), .idxSlice 1 (.tmp 31) (.tmp 32), none⟩,
    ⟨(some 34), .load false 1 (.tmp 33), none⟩,
    ⟨(some 35), .call k_ticket_Queue_Put [(.tmp 30), (.tmp 34)], none⟩,
    ⟨(some 10), .move (.tmp 35), none⟩]
def c_wicketlaw11_TicketRises_S11 : AC :=
  .reg [⟨(some 36), .move (.tmp 10), none⟩,
    ⟨(some 37), .bin .eql (.tmp 36) (.const (.int .i64 0)), none⟩,
    ⟨(some 38), .move (.tmp 0), none⟩,
    ⟨(some 39), .move (.tmp 9), none⟩,
    ⟨(some 40), .idxSlice 1 (.tmp 38) (.tmp 39), none⟩,
    ⟨(some 41), .load false 1 (.tmp 40), none⟩,
    ⟨(some 42), .move (.tmp 6), none⟩,
    ⟨(some 43), .bin .gtr (.tmp 41) (.tmp 42), none⟩,
    ⟨(some 44), .eqv true .bool (.tmp 37) (.tmp 43), none⟩,
    ⟨(some 45), .move (.tmp 44), none⟩,
    ⟨(some 46), .move (.tmp 10), some (45, false)⟩,
    ⟨(some 47), .bin .neq (.tmp 46) (.const (.int .i64 0)), some (45, false)⟩,
    ⟨(some 48), .move (.tmp 47), some (45, false)⟩,
    ⟨(some 49), .move (.tmp 10), some (48, true)⟩,
    ⟨(some 50), .bin .neq (.tmp 49) (.const (.int .i64 110)), some (48, true)⟩,
    ⟨(some 51), .pick (.tmp 48) (.tmp 50) (.const (.bool false)), some (45, false)⟩,
    ⟨(some 52), .pick (.tmp 45) (.const (.bool true)) (.tmp 51), none⟩]
def c_wicketlaw11_TicketRises_S12 : AC :=
  .reg [⟨(some 4), .move (.const (.bool false)), none⟩]
def c_wicketlaw11_TicketRises_S13 : AC :=
  .seq c_wicketlaw11_TicketRises_S11 <|
  .cond (.tmp 52)
    (.seq c_wicketlaw11_TicketRises_S12 <|
    .ret)
    (.skip)
def c_wicketlaw11_TicketRises_S14 : AC :=
  .reg [⟨(some 53), .move (.tmp 10), none⟩,
    ⟨(some 54), .bin .eql (.tmp 53) (.const (.int .i64 0)), none⟩]
def c_wicketlaw11_TicketRises_S15 : AC :=
  .reg [⟨(some 55), .move (.tmp 0), none⟩,
    ⟨(some 56), .move (.tmp 9), none⟩,
    ⟨(some 57), .idxSlice 1 (.tmp 55) (.tmp 56), none⟩,
    ⟨(some 58), .load false 1 (.tmp 57), none⟩,
    ⟨(some 6), .move (.tmp 58), none⟩]
def c_wicketlaw11_TicketRises_S16 : AC :=
  .seq c_wicketlaw11_TicketRises_S14 <|
  .cond (.tmp 54)
    (.seq c_wicketlaw11_TicketRises_S15 <|
    .reg [⟨(some 59), .move (.tmp 8), none⟩,
      ⟨(some 60), .bin .add (.tmp 59) (.const (.int .i64 1)), none⟩,
      ⟨(some 8), .move (.tmp 60), none⟩])
    (.skip)
def c_wicketlaw11_TicketRises_S17 : AC :=
  .reg [⟨(some 61), .move (.tmp 9), none⟩,
    ⟨(some 62), .move (.tmp 1), none⟩,
    ⟨(some 63), .lenS (.tmp 62), none⟩,
    ⟨(some 64), .bin .lss (.tmp 61) (.tmp 63), none⟩,
    ⟨(some 65), .move (.tmp 64), none⟩,
    ⟨(some 66), .move (.tmp 1), some (65, true)⟩,
    ⟨(some 67), .move (.tmp 9), some (65, true)⟩,
    ⟨(some 68), .idxSlice 1 (.tmp 66) (.tmp 67), some (65, true)⟩,
    ⟨(some 69), .load false 1 (.tmp 68), some (65, true)⟩,
    ⟨(some 70), .pick (.tmp 65) (.tmp 69) (.const (.bool false)), none⟩]
def c_wicketlaw11_TicketRises_S18 : AC :=
  .reg [⟨(some 72), .move (.tmp 5), none⟩,
    ⟨(some 73), .call k_ticket_Queue_Take [(.tmp 72)], none⟩,
    ⟨(some 71), .move (.tmp 73), none⟩,
    ⟨(some 74), .extract (.tmp 71) 0, none⟩,
    ⟨(some 75), .extract (.tmp 71) 1, none⟩,
    ⟨(some 11), .move (.tmp 74), none⟩,
    ⟨(some 12), .move (.tmp 75), none⟩]
def c_wicketlaw11_TicketRises_S19 : AC :=
  .reg [⟨(some 76), .move (.tmp 12), none⟩,
    ⟨(some 77), .move (.tmp 8), none⟩,
    ⟨(some 78), .bin .gtr (.tmp 77) (.const (.int .i64 0)), none⟩,
    ⟨(some 79), .eqv true .bool (.tmp 76) (.tmp 78), none⟩,
    ⟨(some 80), .move (.tmp 79), none⟩,
    ⟨(some 81), .move (.tmp 12), some (80, false)⟩,
    ⟨(some 82), .move (.tmp 81), some (80, false)⟩,
    ⟨(some 83), .move (.tmp 11), some (82, true)⟩,
    ⟨(some 84), .move (.tmp 7), some (82, true)⟩,
    ⟨(some 85), .bin .leq (.tmp 83) (.tmp 84), some (82, true)⟩,
    ⟨(some 86), .pick (.tmp 82) (.tmp 85) (.const (.bool false)), some (80, false)⟩,
    ⟨(some 87), .pick (.tmp 80) (.const (.bool true)) (.tmp 86), none⟩]
def c_wicketlaw11_TicketRises_S20 : AC :=
  .reg [⟨(some 4), .move (.const (.bool false)), none⟩]
def c_wicketlaw11_TicketRises_S21 : AC :=
  .seq c_wicketlaw11_TicketRises_S19 <|
  .cond (.tmp 87)
    (.seq c_wicketlaw11_TicketRises_S20 <|
    .ret)
    (.skip)
def c_wicketlaw11_TicketRises_S22 : AC :=
  .reg [⟨(some 88), .move (.tmp 12), none⟩]
def c_wicketlaw11_TicketRises_S23 : AC :=
  .reg [⟨(some 89), .move (.tmp 11), none⟩,
    ⟨(some 7), .move (.tmp 89), none⟩]
def c_wicketlaw11_TicketRises_S24 : AC :=
  .seq c_wicketlaw11_TicketRises_S17 <|
  .cond (.tmp 70)
    (.seq c_wicketlaw11_TicketRises_S18 <|
    .seq c_wicketlaw11_TicketRises_S21 <|
    .seq c_wicketlaw11_TicketRises_S22 <|
    .cond (.tmp 88)
      (.seq c_wicketlaw11_TicketRises_S23 <|
      .reg [⟨(some 90), .move (.tmp 8), none⟩,
        ⟨(some 91), .bin .sub (.tmp 90) (.const (.int .i64 1)), none⟩,
        ⟨(some 8), .move (.tmp 91), none⟩])
      (.skip))
    (.skip)
def c_wicketlaw11_TicketRises_S25 : AC :=
  .reg [⟨(some 93), .move (.tmp 5), none⟩,
    ⟨(some 94), .call k_wicketlaw11_listed [(.tmp 93), (.const (.int .i64 (-1)))], none⟩,
    ⟨(some 92), .move (.tmp 94), none⟩,
    ⟨(some 95), .extract (.tmp 92) 0, none⟩,
    ⟨(some 96), .extract (.tmp 92) 1, none⟩,
    ⟨(some 13), .move (.tmp 95), none⟩,
    ⟨(some 14), .move (.tmp 96), none⟩]
def c_wicketlaw11_TicketRises_S26 : AC :=
  .reg [⟨(some 97), .move (.tmp 14), none⟩,
    ⟨(some 98), .un .not (.tmp 97), none⟩,
    ⟨(some 99), .move (.tmp 98), none⟩,
    ⟨(some 100), .move (.tmp 13), some (99, false)⟩,
    ⟨(some 101), .lenS (.tmp 100), some (99, false)⟩,
    ⟨(some 102), .move (.tmp 8), some (99, false)⟩,
    ⟨(some 103), .bin .neq (.tmp 101) (.tmp 102), some (99, false)⟩,
    ⟨(some 104), .pick (.tmp 99) (.const (.bool true)) (.tmp 103), none⟩,
    ⟨(some 105), .move (.tmp 104), none⟩,
    ⟨(some 106), .move (.tmp 5), some (105, false)⟩,
    ⟨(some 107), .call k_ticket_Queue_Len [(.tmp 106)], some (105, false)⟩,
    ⟨(some 108), .move (.tmp 8), some (105, false)⟩,
    ⟨(some 109), .bin .neq (.tmp 107) (.tmp 108), some (105, false)⟩,
    ⟨(some 110), .pick (.tmp 105) (.const (.bool true)) (.tmp 109), none⟩]
def c_wicketlaw11_TicketRises_S27 : AC :=
  .reg [⟨(some 4), .move (.const (.bool false)), none⟩]
def c_wicketlaw11_TicketRises_S28 : AC :=
  .seq c_wicketlaw11_TicketRises_S26 <|
  .cond (.tmp 110)
    (.seq c_wicketlaw11_TicketRises_S27 <|
    .ret)
    (.skip)
def c_wicketlaw11_TicketRises_S29 : AC :=
  .reg [⟨(some 15), .move (.const (.int .i64 1)), none⟩]
def c_wicketlaw11_TicketRises_S30 : AC :=
  .reg [⟨(some 111), .move (.tmp 15), none⟩,
    ⟨(some 112), .move (.tmp 13), none⟩,
    ⟨(some 113), .lenS (.tmp 112), none⟩,
    ⟨(some 114), .bin .lss (.tmp 111) (.tmp 113), none⟩]
def c_wicketlaw11_TicketRises_S31 : AC :=
  .seq c_wicketlaw11_TicketRises_S30 <|
  .cond (.tmp 114)
    (.skip)
    (.exit 2)
def c_wicketlaw11_TicketRises_S32 : AC :=
  .regd [⟨0, [], false, ⟨(some 117), .move (.tmp 13), none⟩⟩,
    ⟨1, [], false, ⟨(some 118), .move (.tmp 15), none⟩⟩,
    ⟨2, [0, 1], false, ⟨(some 119), .idxSlice 1 (.tmp 117) (.tmp 118), none⟩⟩,
    ⟨3, [2, 0, 1], false, ⟨(some 120), .load false 1 (.tmp 119), none⟩⟩,
    ⟨4, [], false, ⟨(some 121), .move (.tmp 13), none⟩⟩,
    ⟨5, [], false, ⟨(some 122), .move (.tmp 15), none⟩⟩,
    ⟨6, [5], false, ⟨(some 123), .bin .sub (.tmp 122) (.const (.int .i64 1)), none⟩⟩,
    ⟨7, [4, 6, 5], false, ⟨(some 124), .idxSlice 1 (.tmp 121) (.tmp 123), none⟩⟩,
    ⟨8, [7, 4, 6, 5], false, ⟨(some 125), .load false 1 (.tmp 124), none⟩⟩,
    ⟨9, [3, 8, 2, 0, 1, 7, 4, 6, 5], false, ⟨(some 126), .bin .leq (.tmp 120) (.tmp 125), none⟩⟩,
    ⟨10, [9, 3, 8, 2, 0, 1, 7, 4, 6, 5], false, ⟨(some 127), .move (.tmp 126), none⟩⟩,
    ⟨11, [10, 9, 3, 8, 2, 0, 1, 7, 4, 6, 5], false, ⟨(some 128), .move (.tmp 5), some (127, false)⟩⟩,
    ⟨12, [10, 9, 3, 8, 2, 0, 1, 7, 4, 6, 5], false, ⟨(some 129), .move (.tmp 13), some (127, false)⟩⟩,
    ⟨13, [10, 9, 3, 8, 2, 0, 1, 7, 4, 6, 5], false, ⟨(some 130), .move (.tmp 15), some (127, false)⟩⟩,
    ⟨14, [12, 13, 10, 9, 3, 8, 2, 0, 1, 7, 4, 6, 5], false, ⟨(some 131), .idxSlice 1 (.tmp 129) (.tmp 130), some (127, false)⟩⟩,
    ⟨15, [14, 10, 12, 13, 9, 3, 8, 2, 0, 1, 7, 4, 6, 5], false, ⟨(some 132), .load false 1 (.tmp 131), some (127, false)⟩⟩,
    ⟨17, [10, 9, 3, 8, 2, 0, 1, 7, 4, 6, 5], false, ⟨(some 134), .move (.tmp 15), some (127, false)⟩⟩,
    ⟨16, [11, 15, 10, 9, 3, 8, 2, 0, 1, 7, 4, 6, 5, 14, 12, 13], true, ⟨(some 133), .call k_ticket_Queue_Place [(.tmp 128), (.tmp 132)], some (127, false)⟩⟩,
    ⟨18, [16, 17, 10, 11, 15, 9, 3, 8, 2, 0, 1, 7, 4, 6, 5, 14, 12, 13], false, ⟨(some 135), .bin .neq (.tmp 133) (.tmp 134), some (127, false)⟩⟩,
    ⟨19, [10, 18, 9, 3, 8, 2, 0, 1, 7, 4, 6, 5, 16, 17, 11, 15, 14, 12, 13], false, ⟨(some 136), .pick (.tmp 127) (.const (.bool true)) (.tmp 135), none⟩⟩]
def c_wicketlaw11_TicketRises_S33 : AC :=
  .reg [⟨(some 4), .move (.const (.bool false)), none⟩]
def c_wicketlaw11_TicketRises_S34 : AC :=
  .block 3 <|
    .seq c_wicketlaw11_TicketRises_S32 <|
    .cond (.tmp 136)
      (.seq c_wicketlaw11_TicketRises_S33 <|
      .ret)
      (.skip)
def c_wicketlaw11_TicketRises_L35 : AC :=
  .seq c_wicketlaw11_TicketRises_S31 <|
  .seq c_wicketlaw11_TicketRises_S34 <|
  .reg [⟨(some 115), .move (.tmp 15), none⟩,
    ⟨(some 116), .bin .add (.tmp 115) (.const (.int .i64 1)), none⟩,
    ⟨(some 15), .move (.tmp 116), none⟩]
def c_wicketlaw11_TicketRises_S36 : AC :=
  .block 1 <|
    .seq c_wicketlaw11_TicketRises_S10 <|
    .seq c_wicketlaw11_TicketRises_S13 <|
    .seq c_wicketlaw11_TicketRises_S16 <|
    .seq c_wicketlaw11_TicketRises_S24 <|
    .seq c_wicketlaw11_TicketRises_S25 <|
    .seq c_wicketlaw11_TicketRises_S28 <|
    .seq c_wicketlaw11_TicketRises_S29 <|
    .block 2 <|
      .loop c_wicketlaw11_TicketRises_L35
def c_wicketlaw11_TicketRises_L37 : AC :=
  .seq c_wicketlaw11_TicketRises_S9 <|
  .seq c_wicketlaw11_TicketRises_S36 <|
  .reg [⟨(some 28), .move (.tmp 9), none⟩,
    ⟨(some 29), .bin .add (.tmp 28) (.const (.int .i64 1)), none⟩,
    ⟨(some 9), .move (.tmp 29), none⟩]
def c_wicketlaw11_TicketRises_S38 : AC :=
  .seq c_wicketlaw11_TicketRises_S7 <|
  .block 0 <|
    .loop c_wicketlaw11_TicketRises_L37
def c_wicketlaw11_TicketRises_S39 : AC :=
  .reg [⟨(some 4), .move (.const (.bool true)), none⟩]
def c_wicketlaw11_TicketRises : AFun := ⟨[.tmp 4],
  .seq c_wicketlaw11_TicketRises_S0 <|
  .seq c_wicketlaw11_TicketRises_S3 <|
  .seq c_wicketlaw11_TicketRises_S4 <|
  .seq c_wicketlaw11_TicketRises_S5 <|
  .seq c_wicketlaw11_TicketRises_S6 <|
  .seq c_wicketlaw11_TicketRises_S38 <|
  .seq c_wicketlaw11_TicketRises_S39 <|
  .ret⟩
-- f4: wicket/wicketlaw11.awake
def c_wicketlaw11_awake_S0 : AC :=
  .reg [⟨(some 0), .move (.const (.bool false)), none⟩]
def c_wicketlaw11_awake_S1 : AC :=
  .reg [⟨(some 10), .build [(.slice none 0 0), (.int .u64 0)] [], none⟩,
    ⟨(some 11), .box (.tmp 10), none⟩,
    ⟨(some 1), .move (.tmp 11), none⟩]
def c_wicketlaw11_awake_S2 : AC :=
  .reg [⟨(some 12), .move (.tmp 1), none⟩,
    ⟨(some 13), .call k_ticket_Queue_Put [(.tmp 12), (.const (.int .u64 3))], none⟩,
    ⟨(some 14), .move (.tmp 1), none⟩,
    ⟨(some 15), .call k_ticket_Queue_Put [(.tmp 14), (.const (.int .u64 7))], none⟩,
    ⟨(some 16), .move (.tmp 1), none⟩,
    ⟨(some 17), .call k_ticket_Queue_Put [(.tmp 16), (.const (.int .u64 9))], none⟩,
    ⟨(some 18), .move (.tmp 1), none⟩,
    ⟨(some 19), .call k_ticket_Queue_Put [(.tmp 18), (.const (.int .u64 4))], none⟩,
    ⟨(some 2), .move (.tmp 13), none⟩,
    ⟨(some 3), .move (.tmp 15), none⟩,
    ⟨(some 4), .move (.tmp 17), none⟩,
    ⟨(some 5), .move (.tmp 19), none⟩]
def c_wicketlaw11_awake_S3 : AC :=
  .reg [⟨(some 21), .move (.tmp 1), none⟩,
    ⟨(some 22), .call k_wicketlaw11_listed [(.tmp 21), (.const (.int .i64 (-1)))], none⟩,
    ⟨(some 20), .move (.tmp 22), none⟩,
    ⟨(some 23), .extract (.tmp 20) 0, none⟩,
    ⟨(some 24), .extract (.tmp 20) 1, none⟩,
    ⟨(some 6), .move (.tmp 23), none⟩,
    ⟨(some 7), .move (.tmp 24), none⟩]
def c_wicketlaw11_awake_S4 : AC :=
  .reg [⟨(some 26), .move (.tmp 1), none⟩,
    ⟨(some 27), .call k_ticket_Queue_Take [(.tmp 26)], none⟩,
    ⟨(some 25), .move (.tmp 27), none⟩,
    ⟨(some 28), .extract (.tmp 25) 0, none⟩,
    ⟨(some 29), .extract (.tmp 25) 1, none⟩,
    ⟨(some 8), .move (.tmp 28), none⟩,
    ⟨(some 9), .move (.tmp 29), none⟩]
def c_wicketlaw11_awake_S5 : AC :=
  .reg [⟨(some 30), .move (.tmp 2), none⟩,
    ⟨(some 31), .bin .eql (.tmp 30) (.const (.int .i64 0)), none⟩,
    ⟨(some 32), .move (.tmp 31), none⟩,
    ⟨(some 33), .move (.tmp 3), some (32, true)⟩,
    ⟨(some 34), .bin .eql (.tmp 33) (.const (.int .i64 0)), some (32, true)⟩,
    ⟨(some 35), .pick (.tmp 32) (.tmp 34) (.const (.bool false)), none⟩,
    ⟨(some 36), .move (.tmp 35), none⟩,
    ⟨(some 37), .move (.tmp 4), some (36, true)⟩,
    ⟨(some 38), .bin .eql (.tmp 37) (.const (.int .i64 0)), some (36, true)⟩,
    ⟨(some 39), .pick (.tmp 36) (.tmp 38) (.const (.bool false)), none⟩,
    ⟨(some 40), .move (.tmp 39), none⟩,
    ⟨(some 41), .move (.tmp 5), some (40, true)⟩,
    ⟨(some 42), .bin .eql (.tmp 41) (.const (.int .i64 110)), some (40, true)⟩,
    ⟨(some 43), .pick (.tmp 40) (.tmp 42) (.const (.bool false)), none⟩,
    ⟨(some 44), .move (.tmp 43), none⟩,
    ⟨(some 45), .move (.tmp 7), some (44, true)⟩,
    ⟨(some 46), .pick (.tmp 44) (.tmp 45) (.const (.bool false)), none⟩,
    ⟨(some 47), .move (.tmp 46), none⟩,
    ⟨(some 48), .move (.tmp 6), some (47, true)⟩,
    ⟨(some 49), .buildSlice 3 1 [(.int .u64 0), (.int .u64 0), (.int .u64 0)] [(0, 1, (.const (.int .u64 3))), (1, 1, (.const (.int .u64 7))), (2, 1, (.const (.int .u64 9)))], some (47, true)⟩,
    ⟨(some 50), .call k_wicketlaw11_same [(.tmp 48), (.tmp 49)], some (47, true)⟩,
    ⟨(some 51), .pick (.tmp 47) (.tmp 50) (.const (.bool false)), none⟩,
    ⟨(some 52), .move (.tmp 51), none⟩,
    ⟨(some 53), .move (.tmp 1), some (52, true)⟩,
    ⟨(some 54), .call k_ticket_Queue_Place [(.tmp 53), (.const (.int .u64 9))], some (52, true)⟩,
    ⟨(some 55), .bin .eql (.tmp 54) (.const (.int .i64 1)), some (52, true)⟩,
    ⟨(some 56), .pick (.tmp 52) (.tmp 55) (.const (.bool false)), none⟩,
    ⟨(some 57), .move (.tmp 56), none⟩,
    ⟨(some 58), .move (.tmp 8), some (57, true)⟩,
    ⟨(some 59), .bin .eql (.tmp 58) (.const (.int .u64 3)), some (57, true)⟩,
    ⟨(some 60), .pick (.tmp 57) (.tmp 59) (.const (.bool false)), none⟩,
    ⟨(some 61), .move (.tmp 60), none⟩,
    ⟨(some 62), .move (.tmp 9), some (61, true)⟩,
    ⟨(some 63), .pick (.tmp 61) (.tmp 62) (.const (.bool false)), none⟩,
    ⟨(some 0), .move (.tmp 63), none⟩]
def c_wicketlaw11_awake : AFun := ⟨[.tmp 0],
  .seq c_wicketlaw11_awake_S0 <|
  .seq c_wicketlaw11_awake_S1 <|
  .seq c_wicketlaw11_awake_S2 <|
  .seq c_wicketlaw11_awake_S3 <|
  .seq c_wicketlaw11_awake_S4 <|
  .seq c_wicketlaw11_awake_S5 <|
  .ret⟩
-- f5: (*wicket/ticket.Queue).Put
def c_ticket_Queue_Put : AFun := ⟨[.tmp 4],
  .seq (.reg [⟨(some 4), .move (.const (.int .i64 0)), none⟩]) <|
  .seq (.block 0 <|
      .seq (.reg [⟨(some 6), .move (.tmp 0), none⟩,
          ⟨(some 7), .eqv false .ptr (.tmp 6) (.const (.pointer none)), none⟩,
          ⟨(some 5), .move (.tmp 7), none⟩]) <|
      .cond (.tmp 5)
        (.seq (.reg [⟨(some 4), .move (.const (.int .i64 1)), none⟩]) <|
        .ret)
        (.seq (.reg [⟨(some 9), .move (.tmp 1), none⟩,
            ⟨(some 10), .move (.tmp 0), none⟩,
            ⟨(some 11), .nilCheck (.tmp 10), none⟩,
            ⟨(some 12), .fieldAddr 1 (.tmp 11), none⟩,
            ⟨(some 13), .load false 1 (.tmp 12), none⟩,
            ⟨(some 14), .bin .leq (.tmp 9) (.tmp 13), none⟩,
            ⟨(some 8), .move (.tmp 14), none⟩]) <|
        .cond (.tmp 8)
          (.seq (.reg [⟨(some 4), .move (.const (.int .i64 110)), none⟩]) <|
          .ret)
          (.skip))) <|
  .seq (.reg [⟨(some 15), .move (.tmp 0), none⟩,
      ⟨(some 16), .move (.tmp 0), none⟩,
      ⟨(some 17), .nilCheck (.tmp 16), none⟩,
      ⟨(some 18), .fieldAddr 0 (.tmp 17), none⟩,
      ⟨(some 19), .load false 1 (.tmp 18), none⟩,
      ⟨(some 20), .move (.tmp 1), none⟩,
      ⟨(some 21), .buildSlice 1 1 [(.int .u64 0)] [(0, 1, (.tmp 20))], none⟩,
      ⟨(some 22), .append 8 1 (.tmp 19) (.tmp 21), none⟩,
      ⟨(some 23), .nilCheck (.tmp 15), none⟩,
      ⟨(some 24), .fieldAddr 0 (.tmp 23), none⟩,
      ⟨none, .store 1 (.tmp 24) (.tmp 22), none⟩]) <|
  .seq (.reg [⟨(some 25), .move (.tmp 0), none⟩,
      ⟨(some 26), .move (.tmp 1), none⟩,
      ⟨(some 27), .nilCheck (.tmp 25), none⟩,
      ⟨(some 28), .fieldAddr 1 (.tmp 27), none⟩,
      ⟨none, .store 1 (.tmp 28) (.tmp 26), none⟩]) <|
  .seq (.reg [⟨(some 4), .move (.const (.int .i64 0)), none⟩]) <|
  .ret⟩
-- f6: (*wicket/ticket.Queue).Take
def c_ticket_Queue_Take : AFun := ⟨[.tmp 2, .tmp 3],
  .seq (.reg [⟨(some 2), .move (.const (.int .u64 0)), none⟩,
      ⟨(some 3), .move (.const (.bool false)), none⟩]) <|
  .seq (.reg [⟨(some 7), .move (.tmp 0), none⟩,
      ⟨(some 8), .call k_ticket_Queue_First [(.tmp 7)], none⟩,
      ⟨(some 6), .move (.tmp 8), none⟩,
      ⟨(some 9), .extract (.tmp 6) 0, none⟩,
      ⟨(some 10), .extract (.tmp 6) 1, none⟩,
      ⟨(some 4), .move (.tmp 9), none⟩,
      ⟨(some 5), .move (.tmp 10), none⟩]) <|
  .seq (.seq (.reg [⟨(some 11), .move (.tmp 5), none⟩]) <|
    .cond (.tmp 11)
      (.reg [⟨(some 12), .move (.tmp 0), none⟩,
        ⟨(some 13), .move (.tmp 0), none⟩,
        ⟨(some 14), .nilCheck (.tmp 13), none⟩,
        ⟨(some 15), .fieldAddr 0 (.tmp 14), none⟩,
        ⟨(some 16), .load false 1 (.tmp 15), none⟩,
        ⟨(some 17), .call k_slices_Delete_uint64_uint64 [(.tmp 16), (.const (.int .i64 0)), (.const (.int .i64 1))], none⟩,
        ⟨(some 18), .nilCheck (.tmp 12), none⟩,
        ⟨(some 19), .fieldAddr 0 (.tmp 18), none⟩,
        ⟨none, .store 1 (.tmp 19) (.tmp 17), none⟩])
      (.skip)) <|
  .seq (.reg [⟨(some 20), .move (.tmp 4), none⟩,
      ⟨(some 21), .move (.tmp 5), none⟩,
      ⟨(some 2), .move (.tmp 20), none⟩,
      ⟨(some 3), .move (.tmp 21), none⟩]) <|
  .ret⟩
-- f7: wicket/wicketlaw11.listed
def c_wicketlaw11_listed_A0 : AC :=
  .reg [⟨(some 7), .move (.tmp 13), none⟩]
def c_wicketlaw11_listed_B1 : AC :=
  .block 1 <|
    .seq (.seq (.reg [⟨(some 14), .load false 1 (.tmp 3), none⟩,
          ⟨(some 15), .bin .geq (.tmp 14) (.const (.int .i64 0)), none⟩,
          ⟨(some 16), .move (.tmp 15), none⟩,
          ⟨(some 17), .load false 1 (.tmp 4), some (16, true)⟩,
          ⟨(some 18), .lenS (.tmp 17), some (16, true)⟩,
          ⟨(some 19), .load false 1 (.tmp 3), some (16, true)⟩,
          ⟨(some 20), .bin .geq (.tmp 18) (.tmp 19), some (16, true)⟩,
          ⟨(some 21), .pick (.tmp 16) (.tmp 20) (.const (.bool false)), none⟩]) <|
      .cond (.tmp 21)
        (.exit 0)
        (.skip)) <|
    .reg [⟨(some 22), .load false 1 (.tmp 4), none⟩,
      ⟨(some 23), .move (.tmp 7), none⟩,
      ⟨(some 24), .buildSlice 1 1 [(.int .u64 0)] [(0, 1, (.tmp 23))], none⟩,
      ⟨(some 25), .append 8 1 (.tmp 22) (.tmp 24), none⟩,
      ⟨none, .store 1 (.tmp 4) (.tmp 25), none⟩]
def c_wicketlaw11_listed : AFun := ⟨[.cell false 1 4, .tmp 5],
  .seq (.reg [⟨(some 3), .box (.tmp 1), none⟩,
      ⟨(some 4), .alloc [(.slice none 0 0)], none⟩,
      ⟨(some 5), .move (.const (.bool false)), none⟩]) <|
  .seq (.reg [⟨(some 8), .move (.tmp 0), none⟩,
      ⟨(some 9), .call k_ticket_Queue_All [(.tmp 8)], none⟩,
      ⟨(some 6), .move (.tmp 9), none⟩]) <|
  .seq (.seq (.reg [⟨(some 10), .move (.tmp 6), none⟩,
        ⟨(some 11), .eqv false .func (.tmp 10) (.const .nilFunc), none⟩]) <|
    .cond (.tmp 11)
      (.seq (.reg [⟨none, .store 1 (.tmp 4) (.const (.slice none 0 0)), none⟩,
          ⟨(some 5), .move (.const (.bool false)), none⟩]) <|
      .ret)
      (.skip)) <|
  .seq (.seq (.reg [⟨(some 12), .move (.tmp 6), none⟩]) <|
    .block 0 <|
      .range (.tmp 12) [13] c_wicketlaw11_listed_A0 c_wicketlaw11_listed_B1) <|
  .seq (.reg [⟨(some 26), .load false 1 (.tmp 4), none⟩,
      ⟨none, .store 1 (.tmp 4) (.tmp 26), none⟩,
      ⟨(some 5), .move (.const (.bool true)), none⟩]) <|
  .ret⟩
-- f8: (*wicket/ticket.Queue).Len
def c_ticket_Queue_Len : AFun := ⟨[.tmp 2],
  .seq (.reg [⟨(some 2), .move (.const (.int .i64 0)), none⟩]) <|
  .seq (.seq (.reg [⟨(some 3), .move (.tmp 0), none⟩,
        ⟨(some 4), .eqv false .ptr (.tmp 3) (.const (.pointer none)), none⟩]) <|
    .cond (.tmp 4)
      (.seq (.reg [⟨(some 2), .move (.const (.int .i64 0)), none⟩]) <|
      .ret)
      (.skip)) <|
  .seq (.reg [⟨(some 5), .move (.tmp 0), none⟩,
      ⟨(some 6), .nilCheck (.tmp 5), none⟩,
      ⟨(some 7), .fieldAddr 0 (.tmp 6), none⟩,
      ⟨(some 8), .load false 1 (.tmp 7), none⟩,
      ⟨(some 9), .lenS (.tmp 8), none⟩,
      ⟨(some 2), .move (.tmp 9), none⟩]) <|
  .ret⟩
-- f9: (*wicket/ticket.Queue).Place
def c_ticket_Queue_Place_A0 : AC :=
  .reg [⟨(some 6), .move (.tmp 9), none⟩]
def c_ticket_Queue_Place_B1 : AC :=
  .block 1 <|
    .seq (.seq (.reg [⟨(some 10), .move (.tmp 6), none⟩,
          ⟨(some 11), .load false 1 (.tmp 3), none⟩,
          ⟨(some 12), .bin .eql (.tmp 10) (.tmp 11), none⟩]) <|
      .cond (.tmp 12)
        (.seq (.reg [⟨(some 13), .load false 1 (.tmp 5), none⟩,
            ⟨none, .store 1 (.tmp 4) (.tmp 13), none⟩]) <|
        .ret)
        (.skip)) <|
    .reg [⟨(some 14), .load false 1 (.tmp 5), none⟩,
      ⟨(some 15), .bin .add (.tmp 14) (.const (.int .i64 1)), none⟩,
      ⟨none, .store 1 (.tmp 5) (.tmp 15), none⟩]
def c_ticket_Queue_Place : AFun := ⟨[.cell false 1 4],
  .seq (.reg [⟨(some 3), .box (.tmp 1), none⟩,
      ⟨(some 4), .alloc [(.int .i64 0)], none⟩]) <|
  .seq (.reg [⟨(some 5), .alloc [(.int .i64 0)], none⟩,
      ⟨none, .store 1 (.tmp 5) (.const (.int .i64 0)), none⟩]) <|
  .seq (.seq (.reg [⟨(some 7), .move (.tmp 0), none⟩,
        ⟨(some 8), .call k_ticket_Queue_All [(.tmp 7)], none⟩]) <|
    .block 0 <|
      .range (.tmp 8) [9] c_ticket_Queue_Place_A0 c_ticket_Queue_Place_B1) <|
  .seq (.reg [⟨none, .store 1 (.tmp 4) (.const (.int .i64 (-1))), none⟩]) <|
  .ret⟩
-- f10: wicket/wicketlaw11.same
def c_wicketlaw11_same_L0 : AC :=
  .seq (.reg [⟨(some 14), .bin .lss (.tmp 13) (.tmp 12), none⟩]) <|
  .seq (.cond (.tmp 14)
      (.skip)
      (.exit 0)) <|
  .seq (.block 1 <|
      .seq (.reg [⟨(some 15), .move (.tmp 13), none⟩,
          ⟨(some 5), .move (.tmp 15), none⟩]) <|
      .seq (.regd [⟨0, [], false, ⟨(some 16), .move (.tmp 0), none⟩⟩,
          ⟨1, [], false, ⟨(some 17), .move (.tmp 5), none⟩⟩,
          ⟨2, [0, 1], false, ⟨(some 18), .idxSlice 1 (.tmp 16) (.tmp 17), none⟩⟩,
          ⟨3, [2, 0, 1], false, ⟨(some 19), .load false 1 (.tmp 18), none⟩⟩,
          ⟨4, [], false, ⟨(some 20), .move (.tmp 1), none⟩⟩,
          ⟨5, [], false, ⟨(some 21), .move (.tmp 5), none⟩⟩,
          ⟨6, [4, 5], false, ⟨(some 22), .idxSlice 1 (.tmp 20) (.tmp 21), none⟩⟩,
          ⟨7, [6, 4, 5], false, ⟨(some 23), .load false 1 (.tmp 22), none⟩⟩,
          ⟨8, [3, 7, 2, 0, 1, 6, 4, 5], false, ⟨(some 24), .bin .neq (.tmp 19) (.tmp 23), none⟩⟩]) <|
      .cond (.tmp 24)
        (.seq (.reg [⟨(some 4), .move (.const (.bool false)), none⟩]) <|
        .ret)
        (.skip)) <|
  .reg [⟨(some 25), .bin .add (.tmp 13) (.const (.int .i64 1)), none⟩,
    ⟨(some 13), .move (.tmp 25), none⟩]
def c_wicketlaw11_same : AFun := ⟨[.tmp 4],
  .seq (.reg [⟨(some 4), .move (.const (.bool false)), none⟩]) <|
  .seq (.seq (.reg [⟨(some 6), .move (.tmp 0), none⟩,
        ⟨(some 7), .lenS (.tmp 6), none⟩,
        ⟨(some 8), .move (.tmp 1), none⟩,
        ⟨(some 9), .lenS (.tmp 8), none⟩,
        ⟨(some 10), .bin .neq (.tmp 7) (.tmp 9), none⟩]) <|
    .cond (.tmp 10)
      (.seq (.reg [⟨(some 4), .move (.const (.bool false)), none⟩]) <|
      .ret)
      (.skip)) <|
  .seq (.seq (.reg [⟨(some 11), .move (.tmp 0), none⟩,
        ⟨(some 12), .lenS (.tmp 11), none⟩,
        ⟨(some 13), .move (.const (.int .i64 0)), none⟩]) <|
    .block 0 <|
      .loop c_wicketlaw11_same_L0) <|
  .seq (.reg [⟨(some 4), .move (.const (.bool true)), none⟩]) <|
  .ret⟩
-- f11: (*wicket/ticket.Queue).First
def c_ticket_Queue_First : AFun := ⟨[.tmp 2, .tmp 3],
  .seq (.reg [⟨(some 2), .move (.const (.int .u64 0)), none⟩,
      ⟨(some 3), .move (.const (.bool false)), none⟩]) <|
  .seq (.seq (.reg [⟨(some 4), .move (.tmp 0), none⟩,
        ⟨(some 5), .call k_ticket_Queue_Len [(.tmp 4)], none⟩,
        ⟨(some 6), .bin .eql (.tmp 5) (.const (.int .i64 0)), none⟩]) <|
    .cond (.tmp 6)
      (.seq (.reg [⟨(some 2), .move (.const (.int .u64 0)), none⟩,
          ⟨(some 3), .move (.const (.bool false)), none⟩]) <|
      .ret)
      (.skip)) <|
  .seq (.reg [⟨(some 7), .move (.tmp 0), none⟩,
      ⟨(some 8), .nilCheck (.tmp 7), none⟩,
      ⟨(some 9), .fieldAddr 0 (.tmp 8), none⟩,
      ⟨(some 10), .load false 1 (.tmp 9), none⟩,
      ⟨(some 11), .idxSlice 1 (.tmp 10) (.const (.int .i64 0)), none⟩,
      ⟨(some 12), .load false 1 (.tmp 11), none⟩,
      ⟨(some 2), .move (.tmp 12), none⟩,
      ⟨(some 3), .move (.const (.bool true)), none⟩]) <|
  .ret⟩
-- f12: slices.Delete[[]uint64,uint64]
def c_slices_Delete_uint64_uint64 : AFun := ⟨[.tmp 6],
  .seq (.reg [⟨(some 6), .move (.const (.slice none 0 0)), none⟩]) <|
  .seq (.reg [⟨(some 8), .move (.tmp 0), none⟩,
      ⟨(some 9), .move (.tmp 1), none⟩,
      ⟨(some 10), .move (.tmp 2), none⟩,
      ⟨(some 11), .move (.tmp 0), none⟩,
      ⟨(some 12), .lenS (.tmp 11), none⟩,
      ⟨(some 13), .slice 1 (.tmp 8) (some (.tmp 9)) (some (.tmp 10)) (some (.tmp 12)), none⟩]) <|
  .seq (.seq (.reg [⟨(some 14), .move (.tmp 1), none⟩,
        ⟨(some 15), .move (.tmp 2), none⟩,
        ⟨(some 16), .bin .eql (.tmp 14) (.tmp 15), none⟩]) <|
    .cond (.tmp 16)
      (.seq (.reg [⟨(some 17), .move (.tmp 0), none⟩,
          ⟨(some 6), .move (.tmp 17), none⟩]) <|
      .ret)
      (.skip)) <|
  .seq (.reg [⟨(some 18), .move (.tmp 0), none⟩,
      ⟨(some 19), .lenS (.tmp 18), none⟩,
      ⟨(some 7), .move (.tmp 19), none⟩]) <|
  .seq (.regd [⟨0, [], false, ⟨(some 20), .move (.tmp 0), none⟩⟩,
      ⟨1, [], false, ⟨(some 21), .move (.tmp 1), none⟩⟩,
      ⟨2, [0, 1], false, ⟨(some 22), .slice 1 (.tmp 20) none (some (.tmp 21)) none, none⟩⟩,
      ⟨3, [], false, ⟨(some 23), .move (.tmp 0), none⟩⟩,
      ⟨4, [], false, ⟨(some 24), .move (.tmp 2), none⟩⟩,
      ⟨5, [3, 4], false, ⟨(some 25), .slice 1 (.tmp 23) (some (.tmp 24)) none none, none⟩⟩,
      ⟨6, [2, 5, 0, 1, 3, 4], true, ⟨(some 26), .append 8 1 (.tmp 22) (.tmp 25), none⟩⟩,
      ⟨7, [6, 0, 1, 2, 3, 4, 5], true, ⟨(some 0), .move (.tmp 26), none⟩⟩]) <|
  .seq (.reg [⟨(some 27), .move (.tmp 0), none⟩,
      ⟨(some 28), .move (.tmp 0), none⟩,
      ⟨(some 29), .lenS (.tmp 28), none⟩,
      ⟨(some 30), .move (.tmp 7), none⟩,
      ⟨(some 31), .slice 1 (.tmp 27) (some (.tmp 29)) (some (.tmp 30)) none, none⟩,
      ⟨none, .clear [(.int .u64 0)] (.tmp 31), none⟩]) <|
  .seq (.reg [⟨(some 32), .move (.tmp 0), none⟩,
      ⟨(some 6), .move (.tmp 32), none⟩]) <|
  .ret⟩
-- f13: (*wicket/ticket.Queue).All
def c_ticket_Queue_All : AFun := ⟨[.tmp 2],
  .seq (.reg [⟨(some 1), .box (.tmp 0), none⟩,
      ⟨(some 2), .move (.const .nilFunc), none⟩]) <|
  .seq (.reg [⟨(some 3), .makeFunc k_ticket_Queue_All_1 [] [(.tmp 1)], none⟩,
      ⟨(some 2), .move (.tmp 3), none⟩]) <|
  .ret⟩
-- f14: (*wicket/ticket.Queue).All$1
def c_ticket_Queue_All_1_L0 : AC :=
  .seq (.reg [⟨(some 13), .bin .lss (.tmp 12) (.tmp 11), none⟩]) <|
  .seq (.cond (.tmp 13)
      (.skip)
      (.exit 0)) <|
  .seq (.block 1 <|
      .seq (.reg [⟨(some 14), .idxSlice 1 (.tmp 10) (.tmp 12), none⟩,
          ⟨(some 15), .load false 1 (.tmp 14), none⟩,
          ⟨(some 4), .move (.tmp 15), none⟩]) <|
      .seq (.reg [⟨(some 16), .move (.tmp 0), none⟩,
          ⟨(some 17), .move (.tmp 4), none⟩,
          ⟨(some 18), .callv (.tmp 16) [(.tmp 17)], none⟩,
          ⟨(some 19), .un .not (.tmp 18), none⟩]) <|
      .cond (.tmp 19)
        (.ret)
        (.skip)) <|
  .reg [⟨(some 20), .bin .add (.tmp 12) (.const (.int .i64 1)), none⟩,
    ⟨(some 12), .move (.tmp 20), none⟩]
def c_ticket_Queue_All_1 : AFun := ⟨[],
  .seq (.seq (.reg [⟨(some 5), .load false 1 (.tmp 1), none⟩,
        ⟨(some 6), .eqv false .ptr (.tmp 5) (.const (.pointer none)), none⟩]) <|
    .cond (.tmp 6)
      (.ret)
      (.skip)) <|
  .seq (.reg [⟨(some 7), .load false 1 (.tmp 1), none⟩,
      ⟨(some 8), .nilCheck (.tmp 7), none⟩,
      ⟨(some 9), .fieldAddr 0 (.tmp 8), none⟩,
      ⟨(some 10), .load false 1 (.tmp 9), none⟩,
      ⟨(some 11), .lenS (.tmp 10), none⟩,
      ⟨(some 12), .move (.const (.int .i64 0)), none⟩]) <|
  .block 0 <|
    .loop c_ticket_Queue_All_1_L0⟩
end Go.Proofs.Ytiohkpjljinmfaa
