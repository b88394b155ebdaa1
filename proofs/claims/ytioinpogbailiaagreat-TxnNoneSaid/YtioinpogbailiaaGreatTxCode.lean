/- The abstract machine's code of the functions at hand, as it is compiled. -/
import Derived.Test.YtioinpogbailiaaGreatSim
namespace Go.Proofs.YtioinpogbailiaaGreat
open Go
set_option maxRecDepth 100000
def k_wicketlaw18_TxnNone : Nat := 3
def k_txn_New : Nat := 6
def k_wicketref18_New : Nat := 7
def c_txn_New : AFun := ⟨[.tmp 2, .tmp 3],
  .seq (.reg [⟨(some 2), .move (.const (.pointer none)), none⟩,
      ⟨(some 3), .move (.const (.int .i64 0)), none⟩]) <|
  .seq (.seq (.reg [⟨(some 4), .move (.tmp 0), none⟩,
        ⟨(some 5), .bin .lss (.tmp 4) (.const (.int .i64 0)), none⟩,
        ⟨(some 6), .move (.tmp 5), none⟩,
        ⟨(some 7), .move (.tmp 0), some (6, false)⟩,
        ⟨(some 8), .bin .geq (.tmp 7) (.const (.int .i64 8)), some (6, false)⟩,
        ⟨(some 9), .pick (.tmp 6) (.const (.bool true)) (.tmp 8), none⟩]) <|
    .cond (.tmp 9)
      (.seq (.reg [⟨(some 2), .move (.const (.pointer none)), none⟩,
          ⟨(some 3), .move (.const (.int .i64 2)), none⟩]) <|
      .ret)
      (.skip)) <|
  .seq (.reg [⟨(some 10), .move (.tmp 0), none⟩,
      ⟨(some 11), .build [(.int .i64 0), (.int .i64 0), (.int .u64 0), (.slice none 0 0), (.pointer none)] [(0, 1, (.tmp 10)), (1, 1, (.const (.int .i64 0)))], none⟩,
      ⟨(some 12), .box (.tmp 11), none⟩,
      ⟨(some 2), .move (.tmp 12), none⟩,
      ⟨(some 3), .move (.const (.int .i64 0)), none⟩]) <|
  .ret, none⟩
def c_wicketref18_New : AFun := ⟨[.tmp 2, .tmp 3],
  .seq (.reg [⟨(some 2), .move (.const (.pointer none)), none⟩,
      ⟨(some 3), .move (.const (.int .i64 0)), none⟩]) <|
  .seq (.seq (.reg [⟨(some 4), .move (.tmp 0), none⟩,
        ⟨(some 5), .bin .lss (.tmp 4) (.const (.int .i64 0)), none⟩,
        ⟨(some 6), .move (.tmp 5), none⟩,
        ⟨(some 7), .move (.tmp 0), some (6, false)⟩,
        ⟨(some 8), .bin .geq (.tmp 7) (.const (.int .i64 8)), some (6, false)⟩,
        ⟨(some 9), .pick (.tmp 6) (.const (.bool true)) (.tmp 8), none⟩]) <|
    .cond (.tmp 9)
      (.seq (.reg [⟨(some 2), .move (.const (.pointer none)), none⟩,
          ⟨(some 3), .move (.const (.int .i64 2)), none⟩]) <|
      .ret)
      (.skip)) <|
  .seq (.reg [⟨(some 10), .move (.tmp 0), none⟩,
      ⟨(some 11), .build [(.int .i64 0), (.int .i64 0), (.int .u64 0), (.slice none 0 0), (.pointer none)] [(0, 1, (.tmp 10))], none⟩,
      ⟨(some 12), .box (.tmp 11), none⟩,
      ⟨(some 2), .move (.tmp 12), none⟩,
      ⟨(some 3), .move (.const (.int .i64 0)), none⟩]) <|
  .ret, none⟩
def c_wicketlaw18_TxnNone_S5 : AC :=
  .reg [⟨(some 31), .move (.tmp 0), none⟩,
    ⟨(some 32), .call k_txn_New [(.tmp 31)], none⟩,
    ⟨(some 30), .move (.tmp 32), none⟩,
    ⟨(some 33), .extract (.tmp 30) 0, none⟩,
    ⟨(some 34), .extract (.tmp 30) 1, none⟩,
    ⟨(some 6), .move (.tmp 33), none⟩,
    ⟨(some 7), .move (.tmp 34), none⟩]
def c_wicketlaw18_TxnNone_S6 : AC :=
  .reg [⟨(some 36), .move (.tmp 0), none⟩,
    ⟨(some 37), .call k_wicketref18_New [(.tmp 36)], none⟩,
    ⟨(some 35), .move (.tmp 37), none⟩,
    ⟨(some 38), .extract (.tmp 35) 0, none⟩,
    ⟨(some 39), .extract (.tmp 35) 1, none⟩,
    ⟨(some 8), .move (.tmp 38), none⟩,
    ⟨(some 9), .move (.tmp 39), none⟩]
end Go.Proofs.YtioinpogbailiaaGreat
