/- The abstract machine's code of the functions at hand, as it is compiled. -/
import Derived.Test.YtndpmlncjoglcaaSim
namespace Go.Proofs.Ytndpmlncjoglcaa
open Go
set_option maxRecDepth 100000
def k_wicketlaw04_SectorLoads : Nat := 3
def k_wicketlaw04_awake : Nat := 4
def k_wicketlaw04_own : Nat := 5
def k_wicketlaw04_marked : Nat := 6
def k_sector_Load : Nat := 7
def k_wicketref04_Load : Nat := 8
def k_wicketlaw04_held : Nat := 9
def k_sector_Disk_Image : Nat := 10
def k_sector_Disk_Len : Nat := 11
def k_sector_Disk_Waiting : Nat := 12
def k_sector_New : Nat := 13
def k_sector_Disk_Write : Nat := 14
def k_sector_Disk_Read : Nat := 15
def k_sector_Disk_Crash : Nat := 16
def k_slices_Clone_byte_byte : Nat := 17
def k_sector_Disk_asked : Nat := 18
def k_slices_Backward_sector_waiting_sector_waiting : Nat := 19
def k_slices_Backward_sector_waiting_sector_waiting_1 : Nat := 20
-- f3: wicket/wicketlaw04.SectorLoads
def c_wicketlaw04_SectorLoads_S0 : AC :=
  .reg [⟨(some 4), .move (.const (.bool false)), none⟩]
def c_wicketlaw04_SectorLoads_S1 : AC :=
  .reg [⟨(some 11), .call k_wicketlaw04_awake [], none⟩,
    ⟨(some 12), .un .not (.tmp 11), none⟩]
def c_wicketlaw04_SectorLoads_S2 : AC :=
  .reg [⟨(some 4), .move (.const (.bool false)), none⟩]
def c_wicketlaw04_SectorLoads_S3 : AC :=
  .seq c_wicketlaw04_SectorLoads_S1 <|
  .cond (.tmp 12)
    (.seq c_wicketlaw04_SectorLoads_S2 <|
    .ret)
    (.skip)
def c_wicketlaw04_SectorLoads_S4 : AC :=
  .reg [⟨(some 13), .move (.tmp 0), none⟩,
    ⟨(some 14), .lenS (.tmp 13), none⟩,
    ⟨(some 15), .bin .gtr (.tmp 14) (.const (.int .i64 20000)), none⟩]
def c_wicketlaw04_SectorLoads_S5 : AC :=
  .seq c_wicketlaw04_SectorLoads_S4 <|
  .cond (.tmp 15)
    (.reg [⟨(some 16), .move (.tmp 0), none⟩,
      ⟨(some 17), .slice 1 (.tmp 16) none (some (.const (.int .i64 20000))) none, none⟩,
      ⟨(some 0), .move (.tmp 17), none⟩])
    (.skip)
def c_wicketlaw04_SectorLoads_S6 : AC :=
  .reg [⟨(some 18), .move (.tmp 0), none⟩,
    ⟨(some 19), .call k_wicketlaw04_own [(.tmp 18)], none⟩,
    ⟨(some 5), .move (.tmp 19), none⟩]
def c_wicketlaw04_SectorLoads_S7 : AC :=
  .reg [⟨(some 20), .move (.tmp 5), none⟩,
    ⟨(some 21), .lenS (.tmp 20), none⟩,
    ⟨(some 22), .bin .rem (.tmp 21) (.const (.int .i64 64)), none⟩,
    ⟨(some 23), .bin .neq (.tmp 22) (.const (.int .i64 0)), none⟩,
    ⟨(some 24), .move (.tmp 23), none⟩,
    ⟨(some 25), .move (.tmp 1), some (24, true)⟩,
    ⟨(some 26), .bin .rem (.tmp 25) (.const (.int .i64 3)), some (24, true)⟩,
    ⟨(some 27), .bin .neq (.tmp 26) (.const (.int .i64 0)), some (24, true)⟩,
    ⟨(some 28), .pick (.tmp 24) (.tmp 27) (.const (.bool false)), none⟩]
def c_wicketlaw04_SectorLoads_S8 : AC :=
  .seq c_wicketlaw04_SectorLoads_S7 <|
  .cond (.tmp 28)
    (.skip)
    (.exit 0)
def c_wicketlaw04_SectorLoads_L9 : AC :=
  .seq c_wicketlaw04_SectorLoads_S8 <|
  .block 1 <|
    .reg [⟨(some 29), .move (.tmp 5), none⟩,
      ⟨(some 30), .move (.tmp 1), none⟩,
      ⟨(some 31), .conv .u8 (.tmp 30), none⟩,
      ⟨(some 32), .buildSlice 1 1 [(.int .u8 0)] [(0, 1, (.tmp 31))], none⟩,
      ⟨(some 33), .append 1 1 (.tmp 29) (.tmp 32), none⟩,
      ⟨(some 5), .move (.tmp 33), none⟩]
def c_wicketlaw04_SectorLoads_S10 : AC :=
  .block 0 <|
    .loop c_wicketlaw04_SectorLoads_L9
def c_wicketlaw04_SectorLoads_S11 : AC :=
  .reg [⟨(some 34), .move (.tmp 5), none⟩,
    ⟨(some 35), .call k_wicketlaw04_marked [(.tmp 34)], none⟩,
    ⟨(some 6), .move (.tmp 35), none⟩]
def c_wicketlaw04_SectorLoads_S12 : AC :=
  .reg [⟨(some 37), .move (.tmp 6), none⟩,
    ⟨(some 38), .call k_sector_Load [(.tmp 37)], none⟩,
    ⟨(some 36), .move (.tmp 38), none⟩,
    ⟨(some 39), .extract (.tmp 36) 0, none⟩,
    ⟨(some 40), .extract (.tmp 36) 1, none⟩,
    ⟨(some 7), .move (.tmp 39), none⟩,
    ⟨(some 8), .move (.tmp 40), none⟩]
def c_wicketlaw04_SectorLoads_S13 : AC :=
  .reg [⟨(some 42), .move (.tmp 5), none⟩,
    ⟨(some 43), .call k_wicketref04_Load [(.tmp 42)], none⟩,
    ⟨(some 41), .move (.tmp 43), none⟩,
    ⟨(some 44), .extract (.tmp 41) 0, none⟩,
    ⟨(some 45), .extract (.tmp 41) 1, none⟩,
    ⟨(some 9), .move (.tmp 44), none⟩,
    ⟨(some 10), .move (.tmp 45), none⟩]
def c_wicketlaw04_SectorLoads_S14 : AC :=
  .reg [⟨(some 46), .move (.tmp 8), none⟩,
    ⟨(some 47), .move (.tmp 10), none⟩,
    ⟨(some 48), .bin .neq (.tmp 46) (.tmp 47), none⟩,
    ⟨(some 49), .move (.tmp 48), none⟩,
    ⟨(some 50), .move (.tmp 7), some (49, false)⟩,
    ⟨(some 51), .eqv false .ptr (.tmp 50) (.const (.pointer none)), some (49, false)⟩,
    ⟨(some 52), .move (.tmp 9), some (49, false)⟩,
    ⟨(some 53), .eqv false .ptr (.tmp 52) (.const (.pointer none)), some (49, false)⟩,
    ⟨(some 54), .eqv true .bool (.tmp 51) (.tmp 53), some (49, false)⟩,
    ⟨(some 55), .pick (.tmp 49) (.const (.bool true)) (.tmp 54), none⟩,
    ⟨(some 56), .move (.tmp 55), none⟩,
    ⟨(some 57), .move (.tmp 6), some (56, false)⟩,
    ⟨(some 58), .move (.tmp 5), some (56, false)⟩,
    ⟨(some 59), .call k_wicketlaw04_held [(.tmp 57), (.tmp 58)], some (56, false)⟩,
    ⟨(some 60), .un .not (.tmp 59), some (56, false)⟩,
    ⟨(some 61), .pick (.tmp 56) (.const (.bool true)) (.tmp 60), none⟩]
def c_wicketlaw04_SectorLoads_S15 : AC :=
  .reg [⟨(some 4), .move (.const (.bool false)), none⟩]
def c_wicketlaw04_SectorLoads_S16 : AC :=
  .seq c_wicketlaw04_SectorLoads_S14 <|
  .cond (.tmp 61)
    (.seq c_wicketlaw04_SectorLoads_S15 <|
    .ret)
    (.skip)
def c_wicketlaw04_SectorLoads_S17 : AC :=
  .regd [⟨0, [], false, ⟨(some 62), .move (.tmp 9), none⟩⟩,
    ⟨1, [0], false, ⟨(some 63), .eqv false .ptr (.tmp 62) (.const (.pointer none)), none⟩⟩,
    ⟨2, [1, 0], false, ⟨(some 64), .move (.tmp 63), none⟩⟩,
    ⟨3, [2, 1, 0], false, ⟨(some 65), .move (.tmp 7), some (64, false)⟩⟩,
    ⟨6, [2, 1, 0], false, ⟨(some 68), .move (.tmp 5), some (64, false)⟩⟩,
    ⟨7, [6, 2, 1, 0], false, ⟨(some 69), .toStr (.tmp 68), some (64, false)⟩⟩,
    ⟨4, [3, 2, 1, 0], true, ⟨(some 66), .call k_sector_Disk_Image [(.tmp 65)], some (64, false)⟩⟩,
    ⟨5, [4, 2, 3, 1, 0], false, ⟨(some 67), .toStr (.tmp 66), some (64, false)⟩⟩,
    ⟨8, [5, 7, 2, 4, 3, 1, 0, 6], false, ⟨(some 70), .bins .eql (.tmp 67) (.tmp 69), some (64, false)⟩⟩,
    ⟨9, [8, 4, 2, 5, 7, 3, 1, 0, 6], false, ⟨(some 71), .move (.tmp 70), some (64, false)⟩⟩,
    ⟨10, [9, 8, 4, 2, 5, 7, 3, 1, 0, 6], false, ⟨(some 72), .move (.tmp 7), some (71, true)⟩⟩,
    ⟨12, [9, 8, 4, 2, 5, 7, 3, 1, 0, 6], false, ⟨(some 74), .move (.tmp 5), some (71, true)⟩⟩,
    ⟨13, [12, 9, 8, 4, 2, 5, 7, 3, 1, 0, 6], false, ⟨(some 75), .lenS (.tmp 74), some (71, true)⟩⟩,
    ⟨14, [13, 9, 12, 8, 4, 2, 5, 7, 3, 1, 0, 6], false, ⟨(some 76), .bin .quo (.tmp 75) (.const (.int .i64 64)), some (71, true)⟩⟩,
    ⟨11, [10, 9, 8, 4, 2, 5, 7, 3, 1, 0, 6], true, ⟨(some 73), .call k_sector_Disk_Len [(.tmp 72)], some (71, true)⟩⟩,
    ⟨15, [11, 14, 9, 10, 8, 4, 2, 5, 7, 3, 1, 0, 6, 13, 12], false, ⟨(some 77), .bin .eql (.tmp 73) (.tmp 76), some (71, true)⟩⟩,
    ⟨16, [9, 15, 2, 8, 4, 5, 7, 3, 1, 0, 6, 11, 14, 10, 13, 12], false, ⟨(some 78), .pick (.tmp 71) (.tmp 77) (.const (.bool false)), some (64, false)⟩⟩,
    ⟨17, [16, 11, 2, 9, 15, 8, 4, 5, 7, 3, 1, 0, 6, 14, 10, 13, 12], false, ⟨(some 79), .move (.tmp 78), some (64, false)⟩⟩,
    ⟨18, [17, 16, 11, 2, 9, 15, 8, 4, 5, 7, 3, 1, 0, 6, 14, 10, 13, 12], false, ⟨(some 80), .move (.tmp 7), some (79, true)⟩⟩,
    ⟨19, [18, 17, 16, 11, 2, 9, 15, 8, 4, 5, 7, 3, 1, 0, 6, 14, 10, 13, 12], true, ⟨(some 81), .call k_sector_Disk_Waiting [(.tmp 80)], some (79, true)⟩⟩,
    ⟨20, [19, 17, 18, 16, 11, 2, 9, 15, 8, 4, 5, 7, 3, 1, 0, 6, 14, 10, 13, 12], false, ⟨(some 82), .lenS (.tmp 81), some (79, true)⟩⟩,
    ⟨21, [20, 17, 19, 18, 16, 11, 2, 9, 15, 8, 4, 5, 7, 3, 1, 0, 6, 14, 10, 13, 12], false, ⟨(some 83), .bin .eql (.tmp 82) (.const (.int .i64 0)), some (79, true)⟩⟩,
    ⟨22, [17, 21, 2, 16, 11, 9, 15, 8, 4, 5, 7, 3, 1, 0, 6, 14, 10, 13, 12, 20, 19, 18], false, ⟨(some 84), .pick (.tmp 79) (.tmp 83) (.const (.bool false)), some (64, false)⟩⟩,
    ⟨23, [2, 22, 1, 0, 17, 21, 16, 11, 9, 15, 8, 4, 5, 7, 3, 6, 14, 10, 13, 12, 20, 19, 18], false, ⟨(some 85), .pick (.tmp 64) (.const (.bool true)) (.tmp 84), none⟩⟩,
    ⟨24, [23, 19, 0, 1, 2, 3, 4, 5, 6, 7, 8, 9, 10, 11, 12, 13, 14, 15, 16, 17, 18, 20, 21, 22], false, ⟨(some 4), .move (.tmp 85), none⟩⟩]
def c_wicketlaw04_SectorLoads : AFun := ⟨[.tmp 4],
  .seq c_wicketlaw04_SectorLoads_S0 <|
  .seq c_wicketlaw04_SectorLoads_S3 <|
  .seq c_wicketlaw04_SectorLoads_S5 <|
  .seq c_wicketlaw04_SectorLoads_S6 <|
  .seq c_wicketlaw04_SectorLoads_S10 <|
  .seq c_wicketlaw04_SectorLoads_S11 <|
  .seq c_wicketlaw04_SectorLoads_S12 <|
  .seq c_wicketlaw04_SectorLoads_S13 <|
  .seq c_wicketlaw04_SectorLoads_S16 <|
  .seq c_wicketlaw04_SectorLoads_S17 <|
  .ret, none⟩
-- f4: wicket/wicketlaw04.awake
def c_wicketlaw04_awake_L0 : AC :=
  .seq (.reg [⟨(some 35), .bin .lss (.tmp 34) (.tmp 33), none⟩]) <|
  .seq (.cond (.tmp 35)
      (.skip)
      (.exit 0)) <|
  .seq (.block 1 <|
      .seq (.reg [⟨(some 36), .move (.tmp 34), none⟩,
          ⟨(some 6), .move (.tmp 36), none⟩]) <|
      .reg [⟨(some 37), .move (.tmp 3), none⟩,
        ⟨(some 38), .move (.tmp 6), none⟩,
        ⟨(some 39), .move (.tmp 4), none⟩,
        ⟨(some 40), .move (.tmp 6), none⟩,
        ⟨(some 41), .move (.tmp 5), none⟩,
        ⟨(some 42), .move (.tmp 6), none⟩,
        ⟨(some 43), .idxSlice 1 (.tmp 37) (.tmp 38), none⟩,
        ⟨none, .store 1 (.tmp 43) (.const (.int .u8 1)), none⟩,
        ⟨(some 44), .idxSlice 1 (.tmp 39) (.tmp 40), none⟩,
        ⟨none, .store 1 (.tmp 44) (.const (.int .u8 2)), none⟩,
        ⟨(some 45), .idxSlice 1 (.tmp 41) (.tmp 42), none⟩,
        ⟨none, .store 1 (.tmp 45) (.const (.int .u8 3)), none⟩]) <|
  .reg [⟨(some 46), .bin .add (.tmp 34) (.const (.int .i64 1)), none⟩,
    ⟨(some 34), .move (.tmp 46), none⟩]
def c_wicketlaw04_awake : AFun := ⟨[.tmp 0],
  .seq (.reg [⟨(some 0), .move (.const (.bool false)), none⟩]) <|
  .seq (.reg [⟨(some 15), .call k_sector_New [(.const (.int .i64 2))], none⟩,
      ⟨(some 14), .move (.tmp 15), none⟩,
      ⟨(some 16), .extract (.tmp 14) 0, none⟩,
      ⟨(some 17), .extract (.tmp 14) 1, none⟩,
      ⟨(some 1), .move (.tmp 16), none⟩,
      ⟨(some 2), .move (.tmp 17), none⟩]) <|
  .seq (.seq (.reg [⟨(some 18), .move (.tmp 1), none⟩,
        ⟨(some 19), .eqv false .ptr (.tmp 18) (.const (.pointer none)), none⟩,
        ⟨(some 20), .move (.tmp 19), none⟩,
        ⟨(some 21), .move (.tmp 2), some (20, false)⟩,
        ⟨(some 22), .bin .neq (.tmp 21) (.const (.int .i64 0)), some (20, false)⟩,
        ⟨(some 23), .pick (.tmp 20) (.const (.bool true)) (.tmp 22), none⟩,
        ⟨(some 24), .move (.tmp 23), none⟩,
        ⟨(some 25), .move (.tmp 1), some (24, false)⟩,
        ⟨(some 26), .call k_sector_Disk_Len [(.tmp 25)], some (24, false)⟩,
        ⟨(some 27), .bin .neq (.tmp 26) (.const (.int .i64 2)), some (24, false)⟩,
        ⟨(some 28), .pick (.tmp 24) (.const (.bool true)) (.tmp 27), none⟩]) <|
    .cond (.tmp 28)
      (.seq (.reg [⟨(some 0), .move (.const (.bool false)), none⟩]) <|
      .ret)
      (.skip)) <|
  .seq (.regd [⟨0, [], false, ⟨(some 29), .makeSlice 1 1 [(.int .u8 0)] (.const (.int .i64 64)) (.const (.int .i64 64)), none⟩⟩,
      ⟨1, [], false, ⟨(some 30), .makeSlice 1 1 [(.int .u8 0)] (.const (.int .i64 64)) (.const (.int .i64 64)), none⟩⟩,
      ⟨2, [], false, ⟨(some 31), .makeSlice 1 1 [(.int .u8 0)] (.const (.int .i64 64)) (.const (.int .i64 64)), none⟩⟩,
      ⟨3, [0], false, ⟨(some 3), .move (.tmp 29), none⟩⟩,
      ⟨4, [1, 3, 0], false, ⟨(some 4), .move (.tmp 30), none⟩⟩,
      ⟨5, [2, 4, 0, 1, 3], false, ⟨(some 5), .move (.tmp 31), none⟩⟩]) <|
  .seq (.seq (.reg [⟨(some 32), .move (.tmp 3), none⟩,
        ⟨(some 33), .lenS (.tmp 32), none⟩,
        ⟨(some 34), .move (.const (.int .i64 0)), none⟩]) <|
    .block 0 <|
      .loop c_wicketlaw04_awake_L0) <|
  .seq (.reg [⟨(some 47), .move (.tmp 1), none⟩,
      ⟨(some 48), .move (.tmp 3), none⟩,
      ⟨(some 49), .call k_sector_Disk_Write [(.tmp 47), (.const (.int .i64 0)), (.tmp 48)], none⟩,
      ⟨(some 50), .move (.tmp 1), none⟩,
      ⟨(some 51), .move (.tmp 4), none⟩,
      ⟨(some 52), .call k_sector_Disk_Write [(.tmp 50), (.const (.int .i64 0)), (.tmp 51)], none⟩,
      ⟨(some 53), .move (.tmp 1), none⟩,
      ⟨(some 54), .move (.tmp 5), none⟩,
      ⟨(some 55), .call k_sector_Disk_Write [(.tmp 53), (.const (.int .i64 1)), (.tmp 54)], none⟩,
      ⟨(some 7), .move (.tmp 49), none⟩,
      ⟨(some 8), .move (.tmp 52), none⟩,
      ⟨(some 9), .move (.tmp 55), none⟩]) <|
  .seq (.reg [⟨(some 57), .move (.tmp 1), none⟩,
      ⟨(some 58), .call k_sector_Disk_Read [(.tmp 57), (.const (.int .i64 0))], none⟩,
      ⟨(some 56), .move (.tmp 58), none⟩,
      ⟨(some 59), .extract (.tmp 56) 0, none⟩,
      ⟨(some 60), .extract (.tmp 56) 1, none⟩,
      ⟨(some 10), .move (.tmp 59), none⟩,
      ⟨(some 11), .move (.tmp 60), none⟩]) <|
  .seq (.reg [⟨(some 62), .move (.tmp 1), none⟩,
      ⟨(some 63), .buildSlice 5 1 (List.replicate 5 (.int .i64 0)) [(0, 1, (.const (.int .i64 2))), (1, 1, (.const (.int .i64 0))), (2, 1, (.const (.int .i64 2))), (3, 1, (.const (.int .i64 9))), (4, 1, (.const (.int .i64 (-1))))], none⟩,
      ⟨(some 64), .call k_sector_Disk_Crash [(.tmp 62), (.tmp 63)], none⟩,
      ⟨(some 61), .move (.tmp 64), none⟩,
      ⟨(some 65), .extract (.tmp 61) 0, none⟩,
      ⟨(some 66), .extract (.tmp 61) 1, none⟩,
      ⟨(some 12), .move (.tmp 65), none⟩,
      ⟨(some 13), .move (.tmp 66), none⟩]) <|
  .seq (.regd [⟨0, [], false, ⟨(some 67), .move (.tmp 7), none⟩⟩,
      ⟨1, [0], false, ⟨(some 68), .bin .eql (.tmp 67) (.const (.int .i64 0)), none⟩⟩,
      ⟨2, [1, 0], false, ⟨(some 69), .move (.tmp 68), none⟩⟩,
      ⟨3, [2, 1, 0], false, ⟨(some 70), .move (.tmp 8), some (69, true)⟩⟩,
      ⟨4, [3, 2, 1, 0], false, ⟨(some 71), .bin .eql (.tmp 70) (.const (.int .i64 0)), some (69, true)⟩⟩,
      ⟨5, [2, 4, 1, 0, 3], false, ⟨(some 72), .pick (.tmp 69) (.tmp 71) (.const (.bool false)), none⟩⟩,
      ⟨6, [5, 2, 4, 1, 0, 3], false, ⟨(some 73), .move (.tmp 72), none⟩⟩,
      ⟨7, [6, 5, 2, 4, 1, 0, 3], false, ⟨(some 74), .move (.tmp 9), some (73, true)⟩⟩,
      ⟨8, [7, 6, 5, 2, 4, 1, 0, 3], false, ⟨(some 75), .bin .eql (.tmp 74) (.const (.int .i64 0)), some (73, true)⟩⟩,
      ⟨9, [6, 8, 5, 2, 4, 1, 0, 3, 7], false, ⟨(some 76), .pick (.tmp 73) (.tmp 75) (.const (.bool false)), none⟩⟩,
      ⟨10, [9, 6, 8, 5, 2, 4, 1, 0, 3, 7], false, ⟨(some 77), .move (.tmp 76), none⟩⟩,
      ⟨11, [10, 9, 6, 8, 5, 2, 4, 1, 0, 3, 7], false, ⟨(some 78), .move (.tmp 11), some (77, true)⟩⟩,
      ⟨12, [11, 10, 9, 6, 8, 5, 2, 4, 1, 0, 3, 7], false, ⟨(some 79), .bin .eql (.tmp 78) (.const (.int .i64 0)), some (77, true)⟩⟩,
      ⟨13, [10, 12, 9, 6, 8, 5, 2, 4, 1, 0, 3, 7, 11], false, ⟨(some 80), .pick (.tmp 77) (.tmp 79) (.const (.bool false)), none⟩⟩,
      ⟨14, [13, 10, 12, 9, 6, 8, 5, 2, 4, 1, 0, 3, 7, 11], false, ⟨(some 81), .move (.tmp 80), none⟩⟩,
      ⟨15, [14, 13, 10, 12, 9, 6, 8, 5, 2, 4, 1, 0, 3, 7, 11], false, ⟨(some 82), .move (.tmp 10), some (81, true)⟩⟩,
      ⟨16, [15, 14, 13, 10, 12, 9, 6, 8, 5, 2, 4, 1, 0, 3, 7, 11], false, ⟨(some 83), .toStr (.tmp 82), some (81, true)⟩⟩,
      ⟨17, [14, 13, 10, 12, 9, 6, 8, 5, 2, 4, 1, 0, 3, 7, 11], false, ⟨(some 84), .move (.tmp 4), some (81, true)⟩⟩,
      ⟨18, [17, 14, 13, 10, 12, 9, 6, 8, 5, 2, 4, 1, 0, 3, 7, 11], false, ⟨(some 85), .toStr (.tmp 84), some (81, true)⟩⟩,
      ⟨19, [16, 18, 14, 15, 13, 10, 12, 9, 6, 8, 5, 2, 4, 1, 0, 3, 7, 11, 17], false, ⟨(some 86), .bins .eql (.tmp 83) (.tmp 85), some (81, true)⟩⟩,
      ⟨20, [14, 19, 13, 10, 12, 9, 6, 8, 5, 2, 4, 1, 0, 3, 7, 11, 16, 18, 15, 17], false, ⟨(some 87), .pick (.tmp 81) (.tmp 86) (.const (.bool false)), none⟩⟩,
      ⟨21, [20, 14, 19, 13, 10, 12, 9, 6, 8, 5, 2, 4, 1, 0, 3, 7, 11, 16, 18, 15, 17], false, ⟨(some 88), .move (.tmp 87), none⟩⟩,
      ⟨22, [21, 20, 14, 19, 13, 10, 12, 9, 6, 8, 5, 2, 4, 1, 0, 3, 7, 11, 16, 18, 15, 17], false, ⟨(some 89), .move (.tmp 12), some (88, true)⟩⟩,
      ⟨23, [22, 21, 20, 14, 19, 13, 10, 12, 9, 6, 8, 5, 2, 4, 1, 0, 3, 7, 11, 16, 18, 15, 17], false, ⟨(some 90), .bin .eql (.tmp 89) (.const (.int .i64 3)), some (88, true)⟩⟩,
      ⟨24, [21, 23, 20, 14, 19, 13, 10, 12, 9, 6, 8, 5, 2, 4, 1, 0, 3, 7, 11, 16, 18, 15, 17, 22], false, ⟨(some 91), .pick (.tmp 88) (.tmp 90) (.const (.bool false)), none⟩⟩,
      ⟨25, [24, 21, 23, 20, 14, 19, 13, 10, 12, 9, 6, 8, 5, 2, 4, 1, 0, 3, 7, 11, 16, 18, 15, 17, 22], false, ⟨(some 92), .move (.tmp 91), none⟩⟩,
      ⟨26, [25, 24, 21, 23, 20, 14, 19, 13, 10, 12, 9, 6, 8, 5, 2, 4, 1, 0, 3, 7, 11, 16, 18, 15, 17, 22], false, ⟨(some 93), .move (.tmp 13), some (92, true)⟩⟩,
      ⟨27, [26, 25, 24, 21, 23, 20, 14, 19, 13, 10, 12, 9, 6, 8, 5, 2, 4, 1, 0, 3, 7, 11, 16, 18, 15, 17, 22], false, ⟨(some 94), .bin .eql (.tmp 93) (.const (.int .i64 0)), some (92, true)⟩⟩,
      ⟨28, [25, 27, 24, 21, 23, 20, 14, 19, 13, 10, 12, 9, 6, 8, 5, 2, 4, 1, 0, 3, 7, 11, 16, 18, 15, 17, 22, 26], false, ⟨(some 95), .pick (.tmp 92) (.tmp 94) (.const (.bool false)), none⟩⟩,
      ⟨29, [28, 25, 27, 24, 21, 23, 20, 14, 19, 13, 10, 12, 9, 6, 8, 5, 2, 4, 1, 0, 3, 7, 11, 16, 18, 15, 17, 22, 26], false, ⟨(some 96), .move (.tmp 95), none⟩⟩,
      ⟨30, [29, 28, 25, 27, 24, 21, 23, 20, 14, 19, 13, 10, 12, 9, 6, 8, 5, 2, 4, 1, 0, 3, 7, 11, 16, 18, 15, 17, 22, 26], false, ⟨(some 97), .move (.tmp 1), some (96, true)⟩⟩,
      ⟨33, [29, 28, 25, 27, 24, 21, 23, 20, 14, 19, 13, 10, 12, 9, 6, 8, 5, 2, 4, 1, 0, 3, 7, 11, 16, 18, 15, 17, 22, 26], false, ⟨(some 100), .move (.tmp 3), some (96, true)⟩⟩,
      ⟨34, [33, 29, 28, 25, 27, 24, 21, 23, 20, 14, 19, 13, 10, 12, 9, 6, 8, 5, 2, 4, 1, 0, 3, 7, 11, 16, 18, 15, 17, 22, 26], false, ⟨(some 101), .toStr (.tmp 100), some (96, true)⟩⟩,
      ⟨35, [29, 28, 25, 27, 24, 21, 23, 20, 14, 19, 13, 10, 12, 9, 6, 8, 5, 2, 4, 1, 0, 3, 7, 11, 16, 18, 15, 17, 22, 26], false, ⟨(some 102), .move (.tmp 5), some (96, true)⟩⟩,
      ⟨36, [35, 29, 28, 25, 27, 24, 21, 23, 20, 14, 19, 13, 10, 12, 9, 6, 8, 5, 2, 4, 1, 0, 3, 7, 11, 16, 18, 15, 17, 22, 26], false, ⟨(some 103), .toStr (.tmp 102), some (96, true)⟩⟩,
      ⟨37, [34, 36, 29, 33, 28, 25, 27, 24, 21, 23, 20, 14, 19, 13, 10, 12, 9, 6, 8, 5, 2, 4, 1, 0, 3, 7, 11, 16, 18, 15, 17, 22, 26, 35], false, ⟨(some 104), .bins .add (.tmp 101) (.tmp 103), some (96, true)⟩⟩,
      ⟨31, [30, 29, 28, 25, 27, 24, 21, 23, 20, 14, 19, 13, 10, 12, 9, 6, 8, 5, 2, 4, 1, 0, 3, 7, 11, 16, 18, 15, 17, 22, 26], true, ⟨(some 98), .call k_sector_Disk_Image [(.tmp 97)], some (96, true)⟩⟩,
      ⟨32, [31, 29, 30, 28, 25, 27, 24, 21, 23, 20, 14, 19, 13, 10, 12, 9, 6, 8, 5, 2, 4, 1, 0, 3, 7, 11, 16, 18, 15, 17, 22, 26], false, ⟨(some 99), .toStr (.tmp 98), some (96, true)⟩⟩,
      ⟨38, [32, 37, 29, 31, 30, 28, 25, 27, 24, 21, 23, 20, 14, 19, 13, 10, 12, 9, 6, 8, 5, 2, 4, 1, 0, 3, 7, 11, 16, 18, 15, 17, 22, 26, 34, 36, 33, 35], false, ⟨(some 105), .bins .eql (.tmp 99) (.tmp 104), some (96, true)⟩⟩,
      ⟨39, [29, 38, 28, 25, 27, 24, 21, 23, 20, 14, 19, 13, 10, 12, 9, 6, 8, 5, 2, 4, 1, 0, 3, 7, 11, 16, 18, 15, 17, 22, 26, 32, 37, 31, 30, 34, 36, 33, 35], false, ⟨(some 106), .pick (.tmp 96) (.tmp 105) (.const (.bool false)), none⟩⟩,
      ⟨40, [39, 31, 0, 1, 2, 3, 4, 5, 6, 7, 8, 9, 10, 11, 12, 13, 14, 15, 16, 17, 18, 19, 20, 21, 22, 23, 24, 25, 26, 27, 28, 29, 30, 32, 33, 34, 35, 36, 37, 38], false, ⟨(some 0), .move (.tmp 106), none⟩⟩]) <|
  .ret, none⟩
-- f5: wicket/wicketlaw04.own
def c_wicketlaw04_own : AFun := ⟨[.tmp 2],
  .seq (.reg [⟨(some 2), .move (.const (.slice none 0 0)), none⟩]) <|
  .seq (.reg [⟨(some 3), .buildSlice 0 1 [] [], none⟩,
      ⟨(some 4), .move (.tmp 0), none⟩,
      ⟨(some 5), .append 1 1 (.tmp 3) (.tmp 4), none⟩,
      ⟨(some 2), .move (.tmp 5), none⟩]) <|
  .ret, none⟩
-- f6: wicket/wicketlaw04.marked
def c_wicketlaw04_marked : AFun := ⟨[.tmp 2],
  .seq (.reg [⟨(some 2), .move (.const (.slice none 0 0)), none⟩]) <|
  .seq (.reg [⟨(some 4), .move (.tmp 0), none⟩,
      ⟨(some 5), .call k_wicketlaw04_own [(.tmp 4)], none⟩,
      ⟨(some 6), .buildSlice 2 1 [(.int .u8 0), (.int .u8 0)] [(0, 1, (.const (.int .u8 90))), (1, 1, (.const (.int .u8 90)))], none⟩,
      ⟨(some 7), .append 1 1 (.tmp 5) (.tmp 6), none⟩,
      ⟨(some 3), .move (.tmp 7), none⟩]) <|
  .seq (.reg [⟨(some 8), .move (.tmp 3), none⟩,
      ⟨(some 9), .move (.tmp 0), none⟩,
      ⟨(some 10), .lenS (.tmp 9), none⟩,
      ⟨(some 11), .slice 1 (.tmp 8) none (some (.tmp 10)) none, none⟩,
      ⟨(some 2), .move (.tmp 11), none⟩]) <|
  .ret, none⟩
-- f7: wicket/sector.Load
def c_sector_Load_L0 : AC :=
  .seq (.reg [⟨(some 32), .bin .lss (.tmp 31) (.tmp 30), none⟩]) <|
  .seq (.cond (.tmp 32)
      (.skip)
      (.exit 0)) <|
  .seq (.block 1 <|
      .seq (.reg [⟨(some 33), .move (.tmp 31), none⟩,
          ⟨(some 6), .move (.tmp 33), none⟩]) <|
      .regd [⟨0, [], false, ⟨(some 34), .move (.tmp 5), none⟩⟩,
        ⟨1, [0], false, ⟨(some 35), .nilCheck (.tmp 34), none⟩⟩,
        ⟨2, [1, 0], false, ⟨(some 36), .fieldAddr 0 (.tmp 35), none⟩⟩,
        ⟨3, [2, 1, 0], false, ⟨(some 37), .load false 1 (.tmp 36), none⟩⟩,
        ⟨4, [], false, ⟨(some 38), .move (.tmp 6), none⟩⟩,
        ⟨5, [], false, ⟨(some 39), .move (.tmp 0), none⟩⟩,
        ⟨6, [], false, ⟨(some 40), .move (.tmp 6), none⟩⟩,
        ⟨7, [6], false, ⟨(some 41), .bin .mul (.tmp 40) (.const (.int .i64 64)), none⟩⟩,
        ⟨8, [], false, ⟨(some 42), .move (.tmp 6), none⟩⟩,
        ⟨9, [8], false, ⟨(some 43), .bin .add (.tmp 42) (.const (.int .i64 1)), none⟩⟩,
        ⟨10, [9, 8], false, ⟨(some 44), .bin .mul (.tmp 43) (.const (.int .i64 64)), none⟩⟩,
        ⟨11, [5, 7, 10, 6, 9, 8], false, ⟨(some 45), .slice 1 (.tmp 39) (some (.tmp 41)) (some (.tmp 44)) none, none⟩⟩,
        ⟨12, [11, 5, 7, 10, 6, 9, 8], false, ⟨(some 46), .arrAt 64 (.tmp 45), none⟩⟩,
        ⟨13, [12, 11, 5, 7, 10, 6, 9, 8], false, ⟨(some 47), .load true 64 (.tmp 46), none⟩⟩,
        ⟨14, [3, 4, 0, 1, 2, 5, 6, 7, 8, 9, 10, 11, 12, 13], false, ⟨(some 48), .idxSlice 64 (.tmp 37) (.tmp 38), none⟩⟩,
        ⟨15, [14, 13, 0, 1, 2, 3, 4, 5, 6, 7, 8, 9, 10, 11, 12], true, ⟨none, .store 64 (.tmp 48) (.tmp 47), none⟩⟩]) <|
  .reg [⟨(some 49), .bin .add (.tmp 31) (.const (.int .i64 1)), none⟩,
    ⟨(some 31), .move (.tmp 49), none⟩]
def c_sector_Load : AFun := ⟨[.tmp 2, .tmp 3],
  .seq (.reg [⟨(some 2), .move (.const (.pointer none)), none⟩,
      ⟨(some 3), .move (.const (.int .i64 0)), none⟩]) <|
  .seq (.reg [⟨(some 7), .move (.tmp 0), none⟩,
      ⟨(some 8), .lenS (.tmp 7), none⟩,
      ⟨(some 9), .bin .quo (.tmp 8) (.const (.int .i64 64)), none⟩,
      ⟨(some 4), .move (.tmp 9), none⟩]) <|
  .seq (.seq (.reg [⟨(some 10), .move (.tmp 4), none⟩,
        ⟨(some 11), .bin .lss (.tmp 10) (.const (.int .i64 1)), none⟩,
        ⟨(some 12), .move (.tmp 11), none⟩,
        ⟨(some 13), .move (.tmp 4), some (12, false)⟩,
        ⟨(some 14), .bin .gtr (.tmp 13) (.const (.int .i64 4096)), some (12, false)⟩,
        ⟨(some 15), .pick (.tmp 12) (.const (.bool true)) (.tmp 14), none⟩,
        ⟨(some 16), .move (.tmp 15), none⟩,
        ⟨(some 17), .move (.tmp 0), some (16, false)⟩,
        ⟨(some 18), .lenS (.tmp 17), some (16, false)⟩,
        ⟨(some 19), .bin .rem (.tmp 18) (.const (.int .i64 64)), some (16, false)⟩,
        ⟨(some 20), .bin .neq (.tmp 19) (.const (.int .i64 0)), some (16, false)⟩,
        ⟨(some 21), .pick (.tmp 16) (.const (.bool true)) (.tmp 20), none⟩]) <|
    .cond (.tmp 21)
      (.seq (.reg [⟨(some 2), .move (.const (.pointer none)), none⟩,
          ⟨(some 3), .move (.const (.int .i64 2)), none⟩]) <|
      .ret)
      (.skip)) <|
  .seq (.reg [⟨(some 22), .move (.tmp 4), none⟩,
      ⟨(some 23), .makeSlice 64 64 (List.replicate 64 (.int .u8 0)) (.tmp 22) (.tmp 22), none⟩,
      ⟨(some 24), .build [(.slice none 0 0), (.slice none 0 0)] [(0, 1, (.tmp 23))], none⟩,
      ⟨(some 25), .box (.tmp 24), none⟩,
      ⟨(some 5), .move (.tmp 25), none⟩]) <|
  .seq (.seq (.reg [⟨(some 26), .move (.tmp 5), none⟩,
        ⟨(some 27), .nilCheck (.tmp 26), none⟩,
        ⟨(some 28), .fieldAddr 0 (.tmp 27), none⟩,
        ⟨(some 29), .load false 1 (.tmp 28), none⟩,
        ⟨(some 30), .lenS (.tmp 29), none⟩,
        ⟨(some 31), .move (.const (.int .i64 0)), none⟩]) <|
    .block 0 <|
      .loop c_sector_Load_L0) <|
  .seq (.reg [⟨(some 50), .move (.tmp 5), none⟩,
      ⟨(some 2), .move (.tmp 50), none⟩,
      ⟨(some 3), .move (.const (.int .i64 0)), none⟩]) <|
  .ret, none⟩
-- f8: wicket/wicketref04.Load
def c_wicketref04_Load : AFun := ⟨[.tmp 2, .tmp 3],
  .seq (.reg [⟨(some 2), .move (.const (.pointer none)), none⟩,
      ⟨(some 3), .move (.const (.int .i64 0)), none⟩]) <|
  .seq (.seq (.reg [⟨(some 4), .move (.tmp 0), none⟩,
        ⟨(some 5), .lenS (.tmp 4), none⟩,
        ⟨(some 6), .bin .eql (.tmp 5) (.const (.int .i64 0)), none⟩,
        ⟨(some 7), .move (.tmp 6), none⟩,
        ⟨(some 8), .move (.tmp 0), some (7, false)⟩,
        ⟨(some 9), .lenS (.tmp 8), some (7, false)⟩,
        ⟨(some 10), .bin .rem (.tmp 9) (.const (.int .i64 64)), some (7, false)⟩,
        ⟨(some 11), .bin .neq (.tmp 10) (.const (.int .i64 0)), some (7, false)⟩,
        ⟨(some 12), .pick (.tmp 7) (.const (.bool true)) (.tmp 11), none⟩,
        ⟨(some 13), .move (.tmp 12), none⟩,
        ⟨(some 14), .move (.tmp 0), some (13, false)⟩,
        ⟨(some 15), .lenS (.tmp 14), some (13, false)⟩,
        ⟨(some 16), .bin .gtr (.tmp 15) (.const (.int .i64 262144)), some (13, false)⟩,
        ⟨(some 17), .pick (.tmp 13) (.const (.bool true)) (.tmp 16), none⟩]) <|
    .cond (.tmp 17)
      (.seq (.reg [⟨(some 2), .move (.const (.pointer none)), none⟩,
          ⟨(some 3), .move (.const (.int .i64 2)), none⟩]) <|
      .ret)
      (.skip)) <|
  .seq (.reg [⟨(some 18), .buildSlice 0 1 [] [], none⟩,
      ⟨(some 19), .move (.tmp 0), none⟩,
      ⟨(some 20), .append 1 1 (.tmp 18) (.tmp 19), none⟩,
      ⟨(some 21), .build [(.slice none 0 0), (.slice none 0 0)] [(0, 1, (.tmp 20))], none⟩,
      ⟨(some 22), .box (.tmp 21), none⟩,
      ⟨(some 2), .move (.tmp 22), none⟩,
      ⟨(some 3), .move (.const (.int .i64 0)), none⟩]) <|
  .ret, none⟩
-- f9: wicket/wicketlaw04.held
def c_wicketlaw04_held : AFun := ⟨[.tmp 4],
  .seq (.reg [⟨(some 4), .move (.const (.bool false)), none⟩]) <|
  .seq (.reg [⟨(some 6), .move (.tmp 0), none⟩,
      ⟨(some 7), .move (.tmp 1), none⟩,
      ⟨(some 8), .lenS (.tmp 7), none⟩,
      ⟨(some 9), .bin .add (.tmp 8) (.const (.int .i64 2)), none⟩,
      ⟨(some 10), .slice 1 (.tmp 6) none (some (.tmp 9)) none, none⟩,
      ⟨(some 5), .move (.tmp 10), none⟩]) <|
  .seq (.regd [⟨0, [], false, ⟨(some 11), .move (.tmp 5), none⟩⟩,
      ⟨1, [], false, ⟨(some 12), .move (.tmp 1), none⟩⟩,
      ⟨2, [1], false, ⟨(some 13), .lenS (.tmp 12), none⟩⟩,
      ⟨3, [0, 2, 1], false, ⟨(some 14), .slice 1 (.tmp 11) none (some (.tmp 13)) none, none⟩⟩,
      ⟨4, [3, 0, 2, 1], false, ⟨(some 15), .toStr (.tmp 14), none⟩⟩,
      ⟨5, [], false, ⟨(some 16), .move (.tmp 1), none⟩⟩,
      ⟨6, [5], false, ⟨(some 17), .toStr (.tmp 16), none⟩⟩,
      ⟨7, [4, 6, 3, 0, 2, 1, 5], false, ⟨(some 18), .bins .eql (.tmp 15) (.tmp 17), none⟩⟩,
      ⟨8, [7, 4, 6, 3, 0, 2, 1, 5], false, ⟨(some 19), .move (.tmp 18), none⟩⟩,
      ⟨9, [8, 7, 4, 6, 3, 0, 2, 1, 5], false, ⟨(some 20), .move (.tmp 5), some (19, true)⟩⟩,
      ⟨10, [8, 7, 4, 6, 3, 0, 2, 1, 5], false, ⟨(some 21), .move (.tmp 1), some (19, true)⟩⟩,
      ⟨11, [10, 8, 7, 4, 6, 3, 0, 2, 1, 5], false, ⟨(some 22), .lenS (.tmp 21), some (19, true)⟩⟩,
      ⟨12, [9, 11, 8, 7, 4, 6, 3, 0, 2, 1, 5, 10], false, ⟨(some 23), .idxSlice 1 (.tmp 20) (.tmp 22), some (19, true)⟩⟩,
      ⟨13, [12, 8, 9, 11, 7, 4, 6, 3, 0, 2, 1, 5, 10], false, ⟨(some 24), .load false 1 (.tmp 23), some (19, true)⟩⟩,
      ⟨14, [13, 8, 12, 9, 11, 7, 4, 6, 3, 0, 2, 1, 5, 10], false, ⟨(some 25), .bin .eql (.tmp 24) (.const (.int .u8 90)), some (19, true)⟩⟩,
      ⟨15, [8, 14, 7, 4, 6, 3, 0, 2, 1, 5, 13, 12, 9, 11, 10], false, ⟨(some 26), .pick (.tmp 19) (.tmp 25) (.const (.bool false)), none⟩⟩,
      ⟨16, [15, 8, 14, 7, 4, 6, 3, 0, 2, 1, 5, 13, 12, 9, 11, 10], false, ⟨(some 27), .move (.tmp 26), none⟩⟩,
      ⟨17, [16, 15, 8, 14, 7, 4, 6, 3, 0, 2, 1, 5, 13, 12, 9, 11, 10], false, ⟨(some 28), .move (.tmp 5), some (27, true)⟩⟩,
      ⟨18, [16, 15, 8, 14, 7, 4, 6, 3, 0, 2, 1, 5, 13, 12, 9, 11, 10], false, ⟨(some 29), .move (.tmp 1), some (27, true)⟩⟩,
      ⟨19, [18, 16, 15, 8, 14, 7, 4, 6, 3, 0, 2, 1, 5, 13, 12, 9, 11, 10], false, ⟨(some 30), .lenS (.tmp 29), some (27, true)⟩⟩,
      ⟨20, [19, 16, 18, 15, 8, 14, 7, 4, 6, 3, 0, 2, 1, 5, 13, 12, 9, 11, 10], false, ⟨(some 31), .bin .add (.tmp 30) (.const (.int .i64 1)), some (27, true)⟩⟩,
      ⟨21, [17, 20, 16, 15, 8, 14, 7, 4, 6, 3, 0, 2, 1, 5, 13, 12, 9, 11, 10, 19, 18], false, ⟨(some 32), .idxSlice 1 (.tmp 28) (.tmp 31), some (27, true)⟩⟩,
      ⟨22, [21, 16, 17, 20, 15, 8, 14, 7, 4, 6, 3, 0, 2, 1, 5, 13, 12, 9, 11, 10, 19, 18], false, ⟨(some 33), .load false 1 (.tmp 32), some (27, true)⟩⟩,
      ⟨23, [22, 16, 21, 17, 20, 15, 8, 14, 7, 4, 6, 3, 0, 2, 1, 5, 13, 12, 9, 11, 10, 19, 18], false, ⟨(some 34), .bin .eql (.tmp 33) (.const (.int .u8 90)), some (27, true)⟩⟩,
      ⟨24, [16, 23, 15, 8, 14, 7, 4, 6, 3, 0, 2, 1, 5, 13, 12, 9, 11, 10, 22, 21, 17, 20, 19, 18], false, ⟨(some 35), .pick (.tmp 27) (.tmp 34) (.const (.bool false)), none⟩⟩,
      ⟨25, [24, 16, 0, 1, 2, 3, 4, 5, 6, 7, 8, 9, 10, 11, 12, 13, 14, 15, 17, 18, 19, 20, 21, 22, 23], false, ⟨(some 4), .move (.tmp 35), none⟩⟩]) <|
  .ret, none⟩
-- f10: (*wicket/sector.Disk).Image
def c_sector_Disk_Image_L0 : AC :=
  .seq (.reg [⟨(some 21), .bin .lss (.tmp 20) (.tmp 19), none⟩]) <|
  .seq (.cond (.tmp 21)
      (.skip)
      (.exit 0)) <|
  .seq (.block 1 <|
      .seq (.reg [⟨(some 22), .idxSlice 64 (.tmp 18) (.tmp 20), none⟩,
          ⟨(some 23), .load true 64 (.tmp 22), none⟩,
          ⟨(some 5), .alloc (List.replicate 64 (.int .u8 0)), none⟩,
          ⟨none, .store 64 (.tmp 5) (.tmp 23), none⟩]) <|
      .reg [⟨(some 24), .move (.tmp 3), none⟩,
        ⟨(some 25), .sliceArr 64 1 (.tmp 5) none none none, none⟩,
        ⟨(some 26), .append 1 1 (.tmp 24) (.tmp 25), none⟩,
        ⟨(some 3), .move (.tmp 26), none⟩]) <|
  .reg [⟨(some 27), .bin .add (.tmp 20) (.const (.int .i64 1)), none⟩,
    ⟨(some 20), .move (.tmp 27), none⟩]
def c_sector_Disk_Image : AFun := ⟨[.tmp 2],
  .seq (.reg [⟨(some 2), .move (.const (.slice none 0 0)), none⟩]) <|
  .seq (.seq (.reg [⟨(some 6), .move (.tmp 0), none⟩,
        ⟨(some 7), .eqv false .ptr (.tmp 6) (.const (.pointer none)), none⟩]) <|
    .cond (.tmp 7)
      (.seq (.reg [⟨(some 2), .move (.const (.slice none 0 0)), none⟩]) <|
      .ret)
      (.skip)) <|
  .seq (.reg [⟨(some 8), .move (.tmp 0), none⟩,
      ⟨(some 9), .nilCheck (.tmp 8), none⟩,
      ⟨(some 10), .fieldAddr 0 (.tmp 9), none⟩,
      ⟨(some 11), .load false 1 (.tmp 10), none⟩,
      ⟨(some 12), .lenS (.tmp 11), none⟩,
      ⟨(some 13), .bin .mul (.tmp 12) (.const (.int .i64 64)), none⟩,
      ⟨(some 14), .makeSlice 1 1 [(.int .u8 0)] (.const (.int .i64 0)) (.tmp 13), none⟩,
      ⟨(some 3), .move (.tmp 14), none⟩]) <|
  .seq (.seq (.reg [⟨(some 15), .move (.tmp 0), none⟩,
        ⟨(some 16), .nilCheck (.tmp 15), none⟩,
        ⟨(some 17), .fieldAddr 0 (.tmp 16), none⟩,
        ⟨(some 18), .load false 1 (.tmp 17), none⟩,
        ⟨(some 19), .lenS (.tmp 18), none⟩,
        ⟨(some 20), .move (.const (.int .i64 0)), none⟩]) <|
    .block 0 <|
      .loop c_sector_Disk_Image_L0) <|
  .seq (.reg [⟨(some 28), .move (.tmp 3), none⟩,
      ⟨(some 2), .move (.tmp 28), none⟩]) <|
  .ret, none⟩
-- f11: (*wicket/sector.Disk).Len
def c_sector_Disk_Len : AFun := ⟨[.tmp 2],
  .seq (.reg [⟨(some 2), .move (.const (.int .i64 0)), none⟩]) <|
  .seq (.seq (.reg [⟨(some 3), .move (.tmp 0), none⟩,
        ⟨(some 4), .eqv false .ptr (.tmp 3) (.const (.pointer none)), none⟩]) <|
    .cond (.tmp 4)
      (.seq (.reg [⟨(some 2), .move (.const (.int .i64 0)), none⟩]) <|
      .ret)
      (.skip)) <|
  .seq (.reg [⟨(some 5), .move (.tmp 0), none⟩,
      ⟨(some 6), .nilCheck (.tmp 5), none⟩,
      ⟨(some 7), .fieldAddr 0 (.tmp 6), none⟩,
      ⟨(some 8), .load false 1 (.tmp 7), none⟩,
      ⟨(some 9), .lenS (.tmp 8), none⟩,
      ⟨(some 2), .move (.tmp 9), none⟩]) <|
  .ret, none⟩
-- f12: (*wicket/sector.Disk).Waiting
def c_sector_Disk_Waiting_L0 : AC :=
  .seq (.reg [⟨(some 14), .bin .lss (.tmp 13) (.tmp 12), none⟩]) <|
  .seq (.cond (.tmp 14)
      (.skip)
      (.exit 0)) <|
  .seq (.block 1 <|
      .seq (.reg [⟨(some 15), .idxSlice 65 (.tmp 11) (.tmp 13), none⟩,
          ⟨(some 16), .load true 65 (.tmp 15), none⟩,
          ⟨(some 5), .alloc [(.int .i64 0), (.int .u8 0), (.int .u8 0), (.int .u8 0), (.int .u8 0), (.int .u8 0), (.int .u8 0), (.int .u8 0), (.int .u8 0), (.int .u8 0), (.int .u8 0), (.int .u8 0), (.int .u8 0), (.int .u8 0), (.int .u8 0), (.int .u8 0), (.int .u8 0), (.int .u8 0), (.int .u8 0), (.int .u8 0), (.int .u8 0), (.int .u8 0), (.int .u8 0), (.int .u8 0), (.int .u8 0), (.int .u8 0), (.int .u8 0), (.int .u8 0), (.int .u8 0), (.int .u8 0), (.int .u8 0), (.int .u8 0), (.int .u8 0), (.int .u8 0), (.int .u8 0), (.int .u8 0), (.int .u8 0), (.int .u8 0), (.int .u8 0), (.int .u8 0), (.int .u8 0), (.int .u8 0), (.int .u8 0), (.int .u8 0), (.int .u8 0), (.int .u8 0), (.int .u8 0), (.int .u8 0), (.int .u8 0), (.int .u8 0), (.int .u8 0), (.int .u8 0), (.int .u8 0), (.int .u8 0), (.int .u8 0), (.int .u8 0), (.int .u8 0), (.int .u8 0), (.int .u8 0), (.int .u8 0), (.int .u8 0), (.int .u8 0), (.int .u8 0), (.int .u8 0), (.int .u8 0)], none⟩,
          ⟨none, .store 65 (.tmp 5) (.tmp 16), none⟩]) <|
      .regd [⟨0, [], false, ⟨(some 17), .move (.tmp 3), none⟩⟩,
        ⟨1, [], false, ⟨(some 18), .fieldAddr 0 (.tmp 5), none⟩⟩,
        ⟨2, [1], false, ⟨(some 19), .load false 1 (.tmp 18), none⟩⟩,
        ⟨3, [], false, ⟨(some 20), .fieldAddr 1 (.tmp 5), none⟩⟩,
        ⟨4, [3], false, ⟨(some 21), .sliceArr 64 1 (.tmp 20) none none none, none⟩⟩,
        ⟨5, [4, 3], true, ⟨(some 22), .call k_slices_Clone_byte_byte [(.tmp 21)], none⟩⟩,
        ⟨6, [2, 5, 1, 4, 3], false, ⟨(some 23), .build [(.int .i64 0), (.slice none 0 0)] [(0, 1, (.tmp 19)), (1, 1, (.tmp 22))], none⟩⟩,
        ⟨7, [6, 2, 5, 1, 4, 3], false, ⟨(some 24), .buildSlice 1 2 [(.int .i64 0), (.slice none 0 0)] [(0, 2, (.tmp 23))], none⟩⟩,
        ⟨8, [0, 7, 5, 6, 2, 1, 4, 3], true, ⟨(some 25), .append 32 2 (.tmp 17) (.tmp 24), none⟩⟩,
        ⟨9, [8, 0, 1, 2, 3, 4, 5, 6, 7], true, ⟨(some 3), .move (.tmp 25), none⟩⟩]) <|
  .reg [⟨(some 26), .bin .add (.tmp 13) (.const (.int .i64 1)), none⟩,
    ⟨(some 13), .move (.tmp 26), none⟩]
def c_sector_Disk_Waiting : AFun := ⟨[.tmp 2],
  .seq (.reg [⟨(some 2), .move (.const (.slice none 0 0)), none⟩]) <|
  .seq (.seq (.reg [⟨(some 6), .move (.tmp 0), none⟩,
        ⟨(some 7), .eqv false .ptr (.tmp 6) (.const (.pointer none)), none⟩]) <|
    .cond (.tmp 7)
      (.seq (.reg [⟨(some 2), .move (.const (.slice none 0 0)), none⟩]) <|
      .ret)
      (.skip)) <|
  .seq (.reg [⟨(some 3), .move (.const (.slice none 0 0)), none⟩]) <|
  .seq (.seq (.reg [⟨(some 8), .move (.tmp 0), none⟩,
        ⟨(some 9), .nilCheck (.tmp 8), none⟩,
        ⟨(some 10), .fieldAddr 1 (.tmp 9), none⟩,
        ⟨(some 11), .load false 1 (.tmp 10), none⟩,
        ⟨(some 12), .lenS (.tmp 11), none⟩,
        ⟨(some 13), .move (.const (.int .i64 0)), none⟩]) <|
    .block 0 <|
      .loop c_sector_Disk_Waiting_L0) <|
  .seq (.reg [⟨(some 27), .move (.tmp 3), none⟩,
      ⟨(some 2), .move (.tmp 27), none⟩]) <|
  .ret, none⟩
-- f13: wicket/sector.New
def c_sector_New : AFun := ⟨[.tmp 2, .tmp 3],
  .seq (.reg [⟨(some 2), .move (.const (.pointer none)), none⟩,
      ⟨(some 3), .move (.const (.int .i64 0)), none⟩]) <|
  .seq (.seq (.reg [⟨(some 4), .move (.tmp 0), none⟩,
        ⟨(some 5), .bin .lss (.tmp 4) (.const (.int .i64 1)), none⟩,
        ⟨(some 6), .move (.tmp 5), none⟩,
        ⟨(some 7), .move (.tmp 0), some (6, false)⟩,
        ⟨(some 8), .bin .gtr (.tmp 7) (.const (.int .i64 4096)), some (6, false)⟩,
        ⟨(some 9), .pick (.tmp 6) (.const (.bool true)) (.tmp 8), none⟩]) <|
    .cond (.tmp 9)
      (.seq (.reg [⟨(some 2), .move (.const (.pointer none)), none⟩,
          ⟨(some 3), .move (.const (.int .i64 2)), none⟩]) <|
      .ret)
      (.skip)) <|
  .seq (.reg [⟨(some 10), .move (.tmp 0), none⟩,
      ⟨(some 11), .makeSlice 64 64 (List.replicate 64 (.int .u8 0)) (.tmp 10) (.tmp 10), none⟩,
      ⟨(some 12), .build [(.slice none 0 0), (.slice none 0 0)] [(0, 1, (.tmp 11))], none⟩,
      ⟨(some 13), .box (.tmp 12), none⟩,
      ⟨(some 2), .move (.tmp 13), none⟩,
      ⟨(some 3), .move (.const (.int .i64 0)), none⟩]) <|
  .ret, none⟩
-- f14: (*wicket/sector.Disk).Write
def c_sector_Disk_Write : AFun := ⟨[.tmp 6],
  .seq (.reg [⟨(some 6), .move (.const (.int .i64 0)), none⟩]) <|
  .seq (.seq (.reg [⟨(some 8), .move (.tmp 0), none⟩,
        ⟨(some 9), .move (.tmp 1), none⟩,
        ⟨(some 10), .call k_sector_Disk_asked [(.tmp 8), (.tmp 9)], none⟩,
        ⟨(some 7), .move (.tmp 10), none⟩]) <|
    .seq (.reg [⟨(some 11), .move (.tmp 7), none⟩,
        ⟨(some 12), .bin .neq (.tmp 11) (.const (.int .i64 0)), none⟩]) <|
    .cond (.tmp 12)
      (.seq (.reg [⟨(some 13), .move (.tmp 7), none⟩,
          ⟨(some 6), .move (.tmp 13), none⟩]) <|
      .ret)
      (.skip)) <|
  .seq (.seq (.reg [⟨(some 14), .move (.tmp 2), none⟩,
        ⟨(some 15), .lenS (.tmp 14), none⟩,
        ⟨(some 16), .bin .neq (.tmp 15) (.const (.int .i64 64)), none⟩]) <|
    .cond (.tmp 16)
      (.seq (.reg [⟨(some 6), .move (.const (.int .i64 2)), none⟩]) <|
      .ret)
      (.skip)) <|
  .seq (.regd [⟨0, [], false, ⟨(some 17), .move (.tmp 0), none⟩⟩,
      ⟨1, [], false, ⟨(some 18), .move (.tmp 0), none⟩⟩,
      ⟨2, [1], false, ⟨(some 19), .nilCheck (.tmp 18), none⟩⟩,
      ⟨3, [2, 1], false, ⟨(some 20), .fieldAddr 1 (.tmp 19), none⟩⟩,
      ⟨4, [3, 2, 1], false, ⟨(some 21), .load false 1 (.tmp 20), none⟩⟩,
      ⟨5, [], false, ⟨(some 22), .move (.tmp 1), none⟩⟩,
      ⟨6, [], false, ⟨(some 23), .move (.tmp 2), none⟩⟩,
      ⟨7, [6], false, ⟨(some 24), .arrAt 64 (.tmp 23), none⟩⟩,
      ⟨8, [7, 6], false, ⟨(some 25), .load true 64 (.tmp 24), none⟩⟩,
      ⟨9, [5, 8, 7, 6], false, ⟨(some 26), .build [(.int .i64 0), (.int .u8 0), (.int .u8 0), (.int .u8 0), (.int .u8 0), (.int .u8 0), (.int .u8 0), (.int .u8 0), (.int .u8 0), (.int .u8 0), (.int .u8 0), (.int .u8 0), (.int .u8 0), (.int .u8 0), (.int .u8 0), (.int .u8 0), (.int .u8 0), (.int .u8 0), (.int .u8 0), (.int .u8 0), (.int .u8 0), (.int .u8 0), (.int .u8 0), (.int .u8 0), (.int .u8 0), (.int .u8 0), (.int .u8 0), (.int .u8 0), (.int .u8 0), (.int .u8 0), (.int .u8 0), (.int .u8 0), (.int .u8 0), (.int .u8 0), (.int .u8 0), (.int .u8 0), (.int .u8 0), (.int .u8 0), (.int .u8 0), (.int .u8 0), (.int .u8 0), (.int .u8 0), (.int .u8 0), (.int .u8 0), (.int .u8 0), (.int .u8 0), (.int .u8 0), (.int .u8 0), (.int .u8 0), (.int .u8 0), (.int .u8 0), (.int .u8 0), (.int .u8 0), (.int .u8 0), (.int .u8 0), (.int .u8 0), (.int .u8 0), (.int .u8 0), (.int .u8 0), (.int .u8 0), (.int .u8 0), (.int .u8 0), (.int .u8 0), (.int .u8 0), (.int .u8 0)] [(0, 1, (.tmp 22)), (1, 64, (.tmp 25))], none⟩⟩,
      ⟨10, [9, 5, 8, 7, 6], false, ⟨(some 27), .buildSlice 1 65 [(.int .i64 0), (.int .u8 0), (.int .u8 0), (.int .u8 0), (.int .u8 0), (.int .u8 0), (.int .u8 0), (.int .u8 0), (.int .u8 0), (.int .u8 0), (.int .u8 0), (.int .u8 0), (.int .u8 0), (.int .u8 0), (.int .u8 0), (.int .u8 0), (.int .u8 0), (.int .u8 0), (.int .u8 0), (.int .u8 0), (.int .u8 0), (.int .u8 0), (.int .u8 0), (.int .u8 0), (.int .u8 0), (.int .u8 0), (.int .u8 0), (.int .u8 0), (.int .u8 0), (.int .u8 0), (.int .u8 0), (.int .u8 0), (.int .u8 0), (.int .u8 0), (.int .u8 0), (.int .u8 0), (.int .u8 0), (.int .u8 0), (.int .u8 0), (.int .u8 0), (.int .u8 0), (.int .u8 0), (.int .u8 0), (.int .u8 0), (.int .u8 0), (.int .u8 0), (.int .u8 0), (.int .u8 0), (.int .u8 0), (.int .u8 0), (.int .u8 0), (.int .u8 0), (.int .u8 0), (.int .u8 0), (.int .u8 0), (.int .u8 0), (.int .u8 0), (.int .u8 0), (.int .u8 0), (.int .u8 0), (.int .u8 0), (.int .u8 0), (.int .u8 0), (.int .u8 0), (.int .u8 0)] [(0, 65, (.tmp 26))], none⟩⟩,
      ⟨11, [4, 10, 3, 2, 1, 9, 5, 8, 7, 6], true, ⟨(some 28), .append 72 65 (.tmp 21) (.tmp 27), none⟩⟩,
      ⟨12, [0, 1, 2, 3, 4, 5, 6, 7, 8, 9, 10, 11], false, ⟨(some 29), .nilCheck (.tmp 17), none⟩⟩,
      ⟨13, [12, 0, 1, 2, 3, 4, 5, 6, 7, 8, 9, 10, 11], false, ⟨(some 30), .fieldAddr 1 (.tmp 29), none⟩⟩,
      ⟨14, [13, 11, 0, 1, 2, 3, 4, 5, 6, 7, 8, 9, 10, 12], true, ⟨none, .store 1 (.tmp 30) (.tmp 28), none⟩⟩]) <|
  .seq (.reg [⟨(some 6), .move (.const (.int .i64 0)), none⟩]) <|
  .ret, none⟩
-- f15: (*wicket/sector.Disk).Read
def c_sector_Disk_Read_A0 : AC :=
  .reg [⟨(some 8), .alloc [(.int .i64 0), (.int .u8 0), (.int .u8 0), (.int .u8 0), (.int .u8 0), (.int .u8 0), (.int .u8 0), (.int .u8 0), (.int .u8 0), (.int .u8 0), (.int .u8 0), (.int .u8 0), (.int .u8 0), (.int .u8 0), (.int .u8 0), (.int .u8 0), (.int .u8 0), (.int .u8 0), (.int .u8 0), (.int .u8 0), (.int .u8 0), (.int .u8 0), (.int .u8 0), (.int .u8 0), (.int .u8 0), (.int .u8 0), (.int .u8 0), (.int .u8 0), (.int .u8 0), (.int .u8 0), (.int .u8 0), (.int .u8 0), (.int .u8 0), (.int .u8 0), (.int .u8 0), (.int .u8 0), (.int .u8 0), (.int .u8 0), (.int .u8 0), (.int .u8 0), (.int .u8 0), (.int .u8 0), (.int .u8 0), (.int .u8 0), (.int .u8 0), (.int .u8 0), (.int .u8 0), (.int .u8 0), (.int .u8 0), (.int .u8 0), (.int .u8 0), (.int .u8 0), (.int .u8 0), (.int .u8 0), (.int .u8 0), (.int .u8 0), (.int .u8 0), (.int .u8 0), (.int .u8 0), (.int .u8 0), (.int .u8 0), (.int .u8 0), (.int .u8 0), (.int .u8 0), (.int .u8 0)], none⟩,
    ⟨none, .store 65 (.tmp 8) (.tmp 21), none⟩]
def c_sector_Disk_Read_B1 : AC :=
  .block 1 <|
    .seq (.reg [⟨(some 22), .fieldAddr 0 (.tmp 8), none⟩,
        ⟨(some 23), .load false 1 (.tmp 22), none⟩,
        ⟨(some 24), .load false 1 (.tmp 3), none⟩,
        ⟨(some 25), .bin .eql (.tmp 23) (.tmp 24), none⟩]) <|
    .cond (.tmp 25)
      (.seq (.reg [⟨(some 26), .fieldAddr 1 (.tmp 8), none⟩,
          ⟨(some 27), .sliceArr 64 1 (.tmp 26) none none none, none⟩,
          ⟨(some 28), .call k_slices_Clone_byte_byte [(.tmp 27)], none⟩,
          ⟨none, .store 1 (.tmp 4) (.tmp 28), none⟩,
          ⟨none, .store 1 (.tmp 5) (.const (.int .i64 0)), none⟩]) <|
      .ret)
      (.skip)
def c_sector_Disk_Read : AFun := ⟨[.cell false 1 4, .cell false 1 5],
  .seq (.reg [⟨(some 3), .box (.tmp 1), none⟩,
      ⟨(some 4), .alloc [(.slice none 0 0)], none⟩,
      ⟨(some 5), .alloc [(.int .i64 0)], none⟩]) <|
  .seq (.seq (.reg [⟨(some 9), .move (.tmp 0), none⟩,
        ⟨(some 10), .load false 1 (.tmp 3), none⟩,
        ⟨(some 11), .call k_sector_Disk_asked [(.tmp 9), (.tmp 10)], none⟩,
        ⟨(some 6), .move (.tmp 11), none⟩]) <|
    .seq (.reg [⟨(some 12), .move (.tmp 6), none⟩,
        ⟨(some 13), .bin .neq (.tmp 12) (.const (.int .i64 0)), none⟩]) <|
    .cond (.tmp 13)
      (.seq (.reg [⟨(some 14), .move (.tmp 6), none⟩,
          ⟨none, .store 1 (.tmp 4) (.const (.slice none 0 0)), none⟩,
          ⟨none, .store 1 (.tmp 5) (.tmp 14), none⟩]) <|
      .ret)
      (.skip)) <|
  .seq (.seq (.reg [⟨(some 15), .move (.tmp 0), none⟩,
        ⟨(some 16), .nilCheck (.tmp 15), none⟩,
        ⟨(some 17), .fieldAddr 1 (.tmp 16), none⟩,
        ⟨(some 18), .load false 1 (.tmp 17), none⟩,
        ⟨(some 19), .call k_slices_Backward_sector_waiting_sector_waiting [(.tmp 18)], none⟩]) <|
    .block 0 <|
      .range (.tmp 19) [20, 21] c_sector_Disk_Read_A0 c_sector_Disk_Read_B1) <|
  .seq (.regd [⟨0, [], false, ⟨(some 29), .move (.tmp 0), none⟩⟩,
      ⟨1, [0], false, ⟨(some 30), .nilCheck (.tmp 29), none⟩⟩,
      ⟨2, [1, 0], false, ⟨(some 31), .fieldAddr 0 (.tmp 30), none⟩⟩,
      ⟨3, [2, 1, 0], false, ⟨(some 32), .load false 1 (.tmp 31), none⟩⟩,
      ⟨4, [], false, ⟨(some 33), .load false 1 (.tmp 3), none⟩⟩,
      ⟨5, [3, 4, 2, 1, 0], false, ⟨(some 34), .idxSlice 64 (.tmp 32) (.tmp 33), none⟩⟩,
      ⟨6, [5, 3, 4, 2, 1, 0], false, ⟨(some 35), .sliceArr 64 1 (.tmp 34) none none none, none⟩⟩,
      ⟨7, [6, 5, 3, 4, 2, 1, 0], true, ⟨(some 36), .call k_slices_Clone_byte_byte [(.tmp 35)], none⟩⟩,
      ⟨8, [7, 0, 1, 2, 3, 4, 5, 6], true, ⟨none, .store 1 (.tmp 4) (.tmp 36), none⟩⟩,
      ⟨9, [8, 0, 1, 2, 3, 4, 5, 6, 7], true, ⟨none, .store 1 (.tmp 5) (.const (.int .i64 0)), none⟩⟩]) <|
  .ret, none⟩
-- f16: (*wicket/sector.Disk).Crash
def c_sector_Disk_Crash_L0 : AC :=
  .seq (.reg [⟨(some 23), .bin .lss (.tmp 22) (.tmp 21), none⟩]) <|
  .seq (.cond (.tmp 23)
      (.skip)
      (.exit 0)) <|
  .seq (.block 1 <|
      .seq (.reg [⟨(some 24), .idxSlice 1 (.tmp 20) (.tmp 22), none⟩,
          ⟨(some 25), .load false 1 (.tmp 24), none⟩,
          ⟨(some 8), .move (.tmp 25), none⟩]) <|
      .seq (.reg [⟨(some 26), .move (.tmp 8), none⟩,
          ⟨(some 27), .bin .geq (.tmp 26) (.const (.int .i64 0)), none⟩,
          ⟨(some 28), .move (.tmp 27), none⟩,
          ⟨(some 29), .move (.tmp 8), some (28, true)⟩,
          ⟨(some 30), .move (.tmp 6), some (28, true)⟩,
          ⟨(some 31), .lenS (.tmp 30), some (28, true)⟩,
          ⟨(some 32), .bin .lss (.tmp 29) (.tmp 31), some (28, true)⟩,
          ⟨(some 33), .pick (.tmp 28) (.tmp 32) (.const (.bool false)), none⟩]) <|
      .cond (.tmp 33)
        (.reg [⟨(some 34), .move (.tmp 6), none⟩,
          ⟨(some 35), .move (.tmp 8), none⟩,
          ⟨(some 36), .idxSlice 1 (.tmp 34) (.tmp 35), none⟩,
          ⟨none, .store 1 (.tmp 36) (.const (.int .u8 1)), none⟩])
        (.skip)) <|
  .reg [⟨(some 37), .bin .add (.tmp 22) (.const (.int .i64 1)), none⟩,
    ⟨(some 22), .move (.tmp 37), none⟩]
def c_sector_Disk_Crash_L1 : AC :=
  .seq (.reg [⟨(some 44), .bin .lss (.tmp 43) (.tmp 42), none⟩]) <|
  .seq (.cond (.tmp 44)
      (.skip)
      (.exit 2)) <|
  .seq (.block 3 <|
      .seq (.reg [⟨(some 45), .move (.tmp 43), none⟩,
          ⟨(some 46), .idxSlice 65 (.tmp 41) (.tmp 43), none⟩,
          ⟨(some 47), .load true 65 (.tmp 46), none⟩,
          ⟨(some 10), .alloc [(.int .i64 0), (.int .u8 0), (.int .u8 0), (.int .u8 0), (.int .u8 0), (.int .u8 0), (.int .u8 0), (.int .u8 0), (.int .u8 0), (.int .u8 0), (.int .u8 0), (.int .u8 0), (.int .u8 0), (.int .u8 0), (.int .u8 0), (.int .u8 0), (.int .u8 0), (.int .u8 0), (.int .u8 0), (.int .u8 0), (.int .u8 0), (.int .u8 0), (.int .u8 0), (.int .u8 0), (.int .u8 0), (.int .u8 0), (.int .u8 0), (.int .u8 0), (.int .u8 0), (.int .u8 0), (.int .u8 0), (.int .u8 0), (.int .u8 0), (.int .u8 0), (.int .u8 0), (.int .u8 0), (.int .u8 0), (.int .u8 0), (.int .u8 0), (.int .u8 0), (.int .u8 0), (.int .u8 0), (.int .u8 0), (.int .u8 0), (.int .u8 0), (.int .u8 0), (.int .u8 0), (.int .u8 0), (.int .u8 0), (.int .u8 0), (.int .u8 0), (.int .u8 0), (.int .u8 0), (.int .u8 0), (.int .u8 0), (.int .u8 0), (.int .u8 0), (.int .u8 0), (.int .u8 0), (.int .u8 0), (.int .u8 0), (.int .u8 0), (.int .u8 0), (.int .u8 0), (.int .u8 0)], none⟩,
          ⟨(some 9), .move (.tmp 45), none⟩,
          ⟨none, .store 65 (.tmp 10) (.tmp 47), none⟩]) <|
      .seq (.reg [⟨(some 48), .move (.tmp 6), none⟩,
          ⟨(some 49), .move (.tmp 9), none⟩,
          ⟨(some 50), .idxSlice 1 (.tmp 48) (.tmp 49), none⟩,
          ⟨(some 51), .load false 1 (.tmp 50), none⟩,
          ⟨(some 52), .bin .eql (.tmp 51) (.const (.int .u8 1)), none⟩]) <|
      .cond (.tmp 52)
        (.regd [⟨0, [], false, ⟨(some 53), .move (.tmp 0), none⟩⟩,
          ⟨1, [0], false, ⟨(some 54), .nilCheck (.tmp 53), none⟩⟩,
          ⟨2, [1, 0], false, ⟨(some 55), .fieldAddr 0 (.tmp 54), none⟩⟩,
          ⟨3, [2, 1, 0], false, ⟨(some 56), .load false 1 (.tmp 55), none⟩⟩,
          ⟨4, [], false, ⟨(some 57), .fieldAddr 0 (.tmp 10), none⟩⟩,
          ⟨5, [4], false, ⟨(some 58), .load false 1 (.tmp 57), none⟩⟩,
          ⟨6, [], false, ⟨(some 59), .fieldAddr 1 (.tmp 10), none⟩⟩,
          ⟨7, [6], false, ⟨(some 60), .load true 64 (.tmp 59), none⟩⟩,
          ⟨8, [3, 5, 0, 1, 2, 4, 6, 7], false, ⟨(some 61), .idxSlice 64 (.tmp 56) (.tmp 58), none⟩⟩,
          ⟨9, [8, 7, 0, 1, 2, 3, 4, 5, 6], true, ⟨none, .store 64 (.tmp 61) (.tmp 60), none⟩⟩])
        (.skip)) <|
  .reg [⟨(some 62), .bin .add (.tmp 43) (.const (.int .i64 1)), none⟩,
    ⟨(some 43), .move (.tmp 62), none⟩]
def c_sector_Disk_Crash : AFun := ⟨[.tmp 4, .tmp 5],
  .seq (.reg [⟨(some 4), .move (.const (.int .i64 0)), none⟩,
      ⟨(some 5), .move (.const (.int .i64 0)), none⟩]) <|
  .seq (.seq (.reg [⟨(some 12), .move (.tmp 0), none⟩,
        ⟨(some 13), .eqv false .ptr (.tmp 12) (.const (.pointer none)), none⟩]) <|
    .cond (.tmp 13)
      (.seq (.reg [⟨(some 4), .move (.const (.int .i64 0)), none⟩,
          ⟨(some 5), .move (.const (.int .i64 1)), none⟩]) <|
      .ret)
      (.skip)) <|
  .seq (.reg [⟨(some 14), .move (.tmp 0), none⟩,
      ⟨(some 15), .nilCheck (.tmp 14), none⟩,
      ⟨(some 16), .fieldAddr 1 (.tmp 15), none⟩,
      ⟨(some 17), .load false 1 (.tmp 16), none⟩,
      ⟨(some 18), .lenS (.tmp 17), none⟩,
      ⟨(some 19), .makeSlice 1 1 [(.int .u8 0)] (.tmp 18) (.tmp 18), none⟩,
      ⟨(some 6), .move (.tmp 19), none⟩]) <|
  .seq (.seq (.reg [⟨(some 20), .move (.tmp 1), none⟩,
        ⟨(some 21), .lenS (.tmp 20), none⟩,
        ⟨(some 22), .move (.const (.int .i64 0)), none⟩]) <|
    .block 0 <|
      .loop c_sector_Disk_Crash_L0) <|
  .seq (.seq (.reg [⟨(some 38), .move (.tmp 0), none⟩,
        ⟨(some 39), .nilCheck (.tmp 38), none⟩,
        ⟨(some 40), .fieldAddr 1 (.tmp 39), none⟩,
        ⟨(some 41), .load false 1 (.tmp 40), none⟩,
        ⟨(some 42), .lenS (.tmp 41), none⟩,
        ⟨(some 43), .move (.const (.int .i64 0)), none⟩]) <|
    .block 2 <|
      .loop c_sector_Disk_Crash_L1) <|
  .seq (.reg [⟨(some 63), .move (.tmp 0), none⟩,
      ⟨(some 64), .nilCheck (.tmp 63), none⟩,
      ⟨(some 65), .fieldAddr 1 (.tmp 64), none⟩,
      ⟨(some 66), .load false 1 (.tmp 65), none⟩,
      ⟨(some 67), .lenS (.tmp 66), none⟩,
      ⟨(some 11), .move (.tmp 67), none⟩]) <|
  .seq (.reg [⟨(some 68), .move (.tmp 0), none⟩,
      ⟨(some 69), .nilCheck (.tmp 68), none⟩,
      ⟨(some 70), .fieldAddr 1 (.tmp 69), none⟩,
      ⟨none, .store 1 (.tmp 70) (.const (.slice none 0 0)), none⟩]) <|
  .seq (.reg [⟨(some 71), .move (.tmp 11), none⟩,
      ⟨(some 4), .move (.tmp 71), none⟩,
      ⟨(some 5), .move (.const (.int .i64 0)), none⟩]) <|
  .ret, none⟩
-- f17: slices.Clone[[]byte,byte]
def c_slices_Clone_byte_byte : AFun := ⟨[.tmp 2],
  .seq (.reg [⟨(some 2), .move (.const (.slice none 0 0)), none⟩]) <|
  .seq (.seq (.reg [⟨(some 3), .move (.tmp 0), none⟩,
        ⟨(some 4), .eqv false .slice (.tmp 3) (.const (.slice none 0 0)), none⟩]) <|
    .cond (.tmp 4)
      (.seq (.reg [⟨(some 2), .move (.const (.slice none 0 0)), none⟩]) <|
      .ret)
      (.skip)) <|
  .seq (.reg [⟨(some 5), .buildSlice 0 1 [] [], none⟩,
      ⟨(some 6), .move (.tmp 0), none⟩,
      ⟨(some 7), .append 1 1 (.tmp 5) (.tmp 6), none⟩,
      ⟨(some 2), .move (.tmp 7), none⟩]) <|
  .ret, none⟩
-- f18: (*wicket/sector.Disk).asked
def c_sector_Disk_asked : AFun := ⟨[.tmp 4],
  .seq (.reg [⟨(some 4), .move (.const (.int .i64 0)), none⟩]) <|
  .seq (.block 0 <|
      .seq (.reg [⟨(some 6), .move (.tmp 0), none⟩,
          ⟨(some 7), .eqv false .ptr (.tmp 6) (.const (.pointer none)), none⟩,
          ⟨(some 5), .move (.tmp 7), none⟩]) <|
      .cond (.tmp 5)
        (.seq (.reg [⟨(some 4), .move (.const (.int .i64 1)), none⟩]) <|
        .ret)
        (.seq (.reg [⟨(some 9), .move (.tmp 1), none⟩,
            ⟨(some 10), .bin .lss (.tmp 9) (.const (.int .i64 0)), none⟩,
            ⟨(some 11), .move (.tmp 10), none⟩,
            ⟨(some 12), .move (.tmp 1), some (11, false)⟩,
            ⟨(some 13), .move (.tmp 0), some (11, false)⟩,
            ⟨(some 14), .nilCheck (.tmp 13), some (11, false)⟩,
            ⟨(some 15), .fieldAddr 0 (.tmp 14), some (11, false)⟩,
            ⟨(some 16), .load false 1 (.tmp 15), some (11, false)⟩,
            ⟨(some 17), .lenS (.tmp 16), some (11, false)⟩,
            ⟨(some 18), .bin .geq (.tmp 12) (.tmp 17), some (11, false)⟩,
            ⟨(some 19), .pick (.tmp 11) (.const (.bool true)) (.tmp 18), none⟩,
            ⟨(some 8), .move (.tmp 19), none⟩]) <|
        .cond (.tmp 8)
          (.seq (.reg [⟨(some 4), .move (.const (.int .i64 40)), none⟩]) <|
          .ret)
          (.skip))) <|
  .seq (.reg [⟨(some 4), .move (.const (.int .i64 0)), none⟩]) <|
  .ret, none⟩
-- f19: slices.Backward[[]wicket/sector.waiting,wicket/sector.waiting]
def c_slices_Backward_sector_waiting_sector_waiting : AFun := ⟨[.tmp 2],
  .seq (.reg [⟨(some 1), .box (.tmp 0), none⟩,
      ⟨(some 2), .move (.const .nilFunc), none⟩]) <|
  .seq (.reg [⟨(some 3), .makeFunc k_slices_Backward_sector_waiting_sector_waiting_1 [] [(.tmp 1)], none⟩,
      ⟨(some 2), .move (.tmp 3), none⟩]) <|
  .ret, none⟩
-- f20: slices.Backward[[]wicket/sector.waiting,wicket/sector.waiting]$1
def c_slices_Backward_sector_waiting_sector_waiting_1_L0 : AC :=
  .seq (.seq (.reg [⟨(some 7), .move (.tmp 3), none⟩,
        ⟨(some 8), .bin .geq (.tmp 7) (.const (.int .i64 0)), none⟩]) <|
    .cond (.tmp 8)
      (.skip)
      (.exit 0)) <|
  .seq (.block 1 <|
      .seq (.reg [⟨(some 11), .move (.tmp 0), none⟩,
          ⟨(some 12), .move (.tmp 3), none⟩,
          ⟨(some 13), .load false 1 (.tmp 1), none⟩,
          ⟨(some 14), .move (.tmp 3), none⟩,
          ⟨(some 15), .idxSlice 65 (.tmp 13) (.tmp 14), none⟩,
          ⟨(some 16), .load true 65 (.tmp 15), none⟩,
          ⟨(some 17), .callv (.tmp 11) [(.tmp 12), (.tmp 16)], none⟩,
          ⟨(some 18), .un .not (.tmp 17), none⟩]) <|
      .cond (.tmp 18)
        (.ret)
        (.skip)) <|
  .reg [⟨(some 9), .move (.tmp 3), none⟩,
    ⟨(some 10), .bin .sub (.tmp 9) (.const (.int .i64 1)), none⟩,
    ⟨(some 3), .move (.tmp 10), none⟩]
def c_slices_Backward_sector_waiting_sector_waiting_1 : AFun := ⟨[],
  .seq (.reg [⟨(some 4), .load false 1 (.tmp 1), none⟩,
      ⟨(some 5), .lenS (.tmp 4), none⟩,
      ⟨(some 6), .bin .sub (.tmp 5) (.const (.int .i64 1)), none⟩,
      ⟨(some 3), .move (.tmp 6), none⟩]) <|
  .block 0 <|
    .loop c_slices_Backward_sector_waiting_sector_waiting_1_L0, none⟩
end Go.Proofs.Ytndpmlncjoglcaa
