/- The compiled functions of the seat, part IRd. No conditions. -/
import Derived.Test.YtnbclicefmpkiaaAMJ3
import Derived.Test.YtnbclicefmpkiaaProg
import Derived.KernelRfl
namespace Go.Proofs.Ytnbclicefmpkiaa
open Go Go.AM Go.Proofs
/-- baton/batonlaw06.TxnAsks -/
def L3_0 : IC :=
 .seq (.seq (.reg [0, 1, 5, 19] [⟨(some 16), none, .mov (.t 5)⟩,
     ⟨(some 17), none, .mov (.t 1)⟩,
     ⟨(some 18), none, .len (.t 17)⟩,
     ⟨(some 19), none, .bin .lss (.t 16) (.t 18)⟩]) <|
  .cond [0, 1, 5] (.t 19)
   (.skip)
   (.exit 0)) <|
 .seq (.block [0, 1, 5] 1 <|
  .seq (.reg [0, 1, 5, 37] [⟨(some 22), none, .mov (.t 1)⟩,
     ⟨(some 23), none, .mov (.t 5)⟩,
     ⟨(some 24), none, .iaddr 5 (.t 22) (.t 23)⟩,
     ⟨(some 25), none, .faddr 0 (.t 24)⟩,
     ⟨(some 26), none, .load false 1 (.t 25)⟩,
     ⟨(some 27), none, .lenS (.t 26)⟩,
     ⟨(some 28), none, .bin .gtr (.t 27) (.c (.g (.int .i64 60)))⟩,
     ⟨(some 29), none, .mov (.t 28)⟩,
     ⟨(some 30), (some (29, false)), .mov (.t 1)⟩,
     ⟨(some 31), (some (29, false)), .mov (.t 5)⟩,
     ⟨(some 32), (some (29, false)), .iaddr 5 (.t 30) (.t 31)⟩,
     ⟨(some 33), (some (29, false)), .faddr 4 (.t 32)⟩,
     ⟨(some 34), (some (29, false)), .load false 1 (.t 33)⟩,
     ⟨(some 35), (some (29, false)), .lenS (.t 34)⟩,
     ⟨(some 36), (some (29, false)), .bin .gtr (.t 35) (.c (.g (.int .i64 60)))⟩,
     ⟨(some 37), none, .pick (.t 29) (.c (.g (.bool true))) (.t 36)⟩]) <|
  .cond [0, 1, 5] (.t 37)
   (.seq (.reg [4] [⟨(some 38), none, .call (.c (.g (.fn 16))) []⟩,
       ⟨(some 4), none, .mov (.t 38)⟩]) <|
    .ret)
   (.skip)) <|
 .reg [0, 1, 5] [⟨(some 20), none, .mov (.t 5)⟩,
   ⟨(some 21), none, .bin .add (.t 20) (.c (.g (.int .i64 1)))⟩,
   ⟨(some 5), none, .mov (.t 21)⟩]
def L3_1 : IC :=
 .seq (.seq (.reg [0, 1, 6, 42] [⟨(some 39), none, .mov (.t 6)⟩,
     ⟨(some 40), none, .mov (.t 1)⟩,
     ⟨(some 41), none, .len (.t 40)⟩,
     ⟨(some 42), none, .bin .lss (.t 39) (.t 41)⟩]) <|
  .cond [0, 1, 6] (.t 42)
   (.skip)
   (.exit 2)) <|
 .seq (.block [0, 1, 6] 3 <|
  .seq (.drw [0, 1, 6, 57] 0 <|
   .take ⟨(some 45), none, .mov (.t 0)⟩ <|
   .take ⟨(some 46), none, .mov (.t 1)⟩ <|
   .take ⟨(some 47), none, .mov (.t 6)⟩ <|
   .take ⟨(some 48), none, .iaddr 5 (.t 46) (.t 47)⟩ <|
   .take ⟨(some 49), none, .load true 5 (.t 48)⟩ <|
   .take ⟨(some 51), none, .mov (.t 0)⟩ <|
   .take ⟨(some 52), none, .mov (.t 1)⟩ <|
   .take ⟨(some 53), none, .mov (.t 6)⟩ <|
   .take ⟨(some 54), none, .iaddr 5 (.t 52) (.t 53)⟩ <|
   .take ⟨(some 55), none, .load true 5 (.t 54)⟩ <|
   .one ⟨(some 50), none, .call (.c (.g (.fn 17))) [(.t 45), (.t 49)]⟩ <|
   .one ⟨(some 56), none, .call (.c (.g (.fn 18))) [(.t 51), (.t 55)]⟩ <|
   .take ⟨(some 57), none, .eqs true false [.b] (.t 50) (.t 56)⟩ <|
   .leaf) <|
  .cond [0, 1, 6] (.t 57)
   (.seq (.reg [4] [⟨(some 4), none, .mov (.c (.g (.bool false)))⟩]) <|
    .ret)
   (.skip)) <|
 .reg [0, 1, 6] [⟨(some 43), none, .mov (.t 6)⟩,
   ⟨(some 44), none, .bin .add (.t 43) (.c (.g (.int .i64 1)))⟩,
   ⟨(some 6), none, .mov (.t 44)⟩]
def F3 : IFunc := ⟨2, 68, [.tmp 4], false,
 .seq (.reg [0, 1] [⟨(some 4), none, .mov (.c (.g (.bool false)))⟩]) <|
 .seq (.seq (.reg [0, 1, 14] [⟨(some 7), none, .mov (.t 0)⟩,
     ⟨(some 8), none, .call (.c (.g (.fn 15))) [(.t 7), (.c (.g (.int .i64 40)))]⟩,
     ⟨(some 9), none, .un .not (.t 8)⟩,
     ⟨(some 10), none, .mov (.t 9)⟩,
     ⟨(some 11), (some (10, false)), .mov (.t 1)⟩,
     ⟨(some 12), (some (10, false)), .len (.t 11)⟩,
     ⟨(some 13), (some (10, false)), .bin .gtr (.t 12) (.c (.g (.int .i64 20)))⟩,
     ⟨(some 14), none, .pick (.t 10) (.c (.g (.bool true))) (.t 13)⟩]) <|
  .cond [0, 1] (.t 14)
   (.seq (.reg [4] [⟨(some 15), none, .call (.c (.g (.fn 16))) []⟩,
       ⟨(some 4), none, .mov (.t 15)⟩]) <|
    .ret)
   (.skip)) <|
 .seq (.seq (.reg [0, 1, 5] [⟨(some 5), none, .mov (.c (.g (.int .i64 0)))⟩]) <|
  .block [0, 1] 0 <|
  .loop [0, 1, 5] [] L3_0) <|
 .seq (.seq (.reg [0, 1, 6] [⟨(some 6), none, .mov (.c (.g (.int .i64 0)))⟩]) <|
  .block [0, 1] 2 <|
  .loop [0, 1, 6] [] L3_1) <|
 .seq (.reg [4] [⟨(some 58), none, .mov (.t 0)⟩,
    ⟨(some 59), none, .mov (.t 1)⟩,
    ⟨(some 60), none, .call (.c (.g (.fn 19))) [(.t 58), (.t 59)]⟩,
    ⟨(some 61), none, .mov (.t 0)⟩,
    ⟨(some 62), none, .mov (.t 1)⟩,
    ⟨(some 63), none, .call (.c (.g (.fn 20))) [(.t 61), (.t 62)]⟩,
    ⟨(some 64), none, .eqs false false [.b] (.t 60) (.t 63)⟩,
    ⟨(some 65), none, .mov (.t 64)⟩,
    ⟨(some 66), (some (65, true)), .call (.c (.g (.fn 16))) []⟩,
    ⟨(some 67), none, .pick (.t 65) (.t 66) (.c (.g (.bool false)))⟩,
    ⟨(some 4), none, .mov (.t 67)⟩]) <|
 .ret⟩
def h3 : List (List Nat) := [[0, 1], [0, 1, 14], [0, 1], [4], [0, 1, 5], [0, 1], [0, 1, 5], [0, 1, 5, 19], [0, 1, 5], [0, 1, 5], [0, 1, 5, 37], [0, 1, 5], [4], [0, 1, 5], [0, 1, 6], [0, 1], [0, 1, 6], [0, 1, 6, 42], [0, 1, 6], [0, 1, 6], [0, 1, 6, 57], [], [0, 1, 6], [4], [0, 1, 6], [4]]
theorem c3 : cFunc Try.prog 3 false h3 = some F3 := by kernel_rfl

/-- baton/batonlaw06.TxnDoes -/
def F4 : IFunc := ⟨2, 65, [.tmp 4], false,
 .seq (.reg [2, 3] [⟨(some 2), none, .box (.t 0)⟩,
    ⟨(some 3), none, .box (.t 1)⟩,
    ⟨(some 4), none, .mov (.c (.g (.bool false)))⟩]) <|
 .seq (.seq (.reg [2, 3, 26] [⟨(some 13), none, .load true 4 (.t 2)⟩,
     ⟨(some 14), none, .call (.c (.g (.fn 21))) [(.t 13)]⟩,
     ⟨(some 15), none, .un .not (.t 14)⟩,
     ⟨(some 16), none, .mov (.t 15)⟩,
     ⟨(some 17), (some (16, false)), .load true 4 (.t 2)⟩,
     ⟨(some 18), (some (16, false)), .call (.c (.g (.fn 22))) [(.t 17)]⟩,
     ⟨(some 19), (some (16, false)), .un .not (.t 18)⟩,
     ⟨(some 20), none, .pick (.t 16) (.c (.g (.bool true))) (.t 19)⟩,
     ⟨(some 21), none, .mov (.t 20)⟩,
     ⟨(some 22), (some (21, false)), .load true 3 (.t 3)⟩,
     ⟨(some 23), (some (21, false)), .build [.g (.int .i64 0), .g (.int .i64 0), .g (.int .i64 0), .g (.bool false), .g (.str []), .g (.str []), .g (.int .i64 0), .g (.int .i64 0), .g (.int .i64 0), .g (.int .i64 0), .g (.nsl), .g (.nsl), .g (.nsl)] [(10, 3, (.t 22))]⟩,
     ⟨(some 24), (some (21, false)), .call (.c (.g (.fn 23))) [(.t 23)]⟩,
     ⟨(some 25), (some (21, false)), .un .not (.t 24)⟩,
     ⟨(some 26), none, .pick (.t 21) (.c (.g (.bool true))) (.t 25)⟩]) <|
  .cond [2, 3] (.t 26)
   (.seq (.reg [4] [⟨(some 27), none, .call (.c (.g (.fn 16))) []⟩,
       ⟨(some 4), none, .mov (.t 27)⟩]) <|
    .ret)
   (.skip)) <|
 .seq (.reg [2, 3, 5, 6, 7, 8] [⟨(some 29), none, .load true 4 (.t 2)⟩,
    ⟨(some 30), none, .load true 3 (.t 3)⟩,
    ⟨(some 31), none, .call (.c (.g (.fn 24))) [(.t 29), (.t 30)]⟩,
    ⟨(some 28), none, .mov (.t 31)⟩,
    ⟨(some 32), none, .ext 0 (.t 28)⟩,
    ⟨(some 33), none, .ext 1 (.t 28)⟩,
    ⟨(some 34), none, .ext 2 (.t 28)⟩,
    ⟨(some 35), none, .ext 3 (.t 28)⟩,
    ⟨(some 5), none, .alloc [.z (.int .i64 0), .z (.int .i64 0), .s 6, .s 8]⟩,
    ⟨none, none, .store 4 (.t 5) (.t 32)⟩,
    ⟨(some 6), none, .mov (.t 33)⟩,
    ⟨(some 7), none, .mov (.t 34)⟩,
    ⟨(some 8), none, .mov (.t 35)⟩]) <|
 .seq (.reg [5, 6, 7, 8, 9, 10, 11, 12] [⟨(some 37), none, .load true 4 (.t 2)⟩,
    ⟨(some 38), none, .load true 3 (.t 3)⟩,
    ⟨(some 39), none, .call (.c (.g (.fn 25))) [(.t 37), (.t 38)]⟩,
    ⟨(some 36), none, .mov (.t 39)⟩,
    ⟨(some 40), none, .ext 0 (.t 36)⟩,
    ⟨(some 41), none, .ext 1 (.t 36)⟩,
    ⟨(some 42), none, .ext 2 (.t 36)⟩,
    ⟨(some 43), none, .ext 3 (.t 36)⟩,
    ⟨(some 9), none, .alloc [.z (.int .i64 0), .z (.int .i64 0), .s 6, .s 8]⟩,
    ⟨none, none, .store 4 (.t 9) (.t 40)⟩,
    ⟨(some 10), none, .mov (.t 41)⟩,
    ⟨(some 11), none, .mov (.t 42)⟩,
    ⟨(some 12), none, .mov (.t 43)⟩]) <|
 .seq (.reg [4] [⟨(some 44), none, .load true 4 (.t 5)⟩,
    ⟨(some 45), none, .load true 4 (.t 9)⟩,
    ⟨(some 46), none, .call (.c (.g (.fn 26))) [(.t 44), (.t 45)]⟩,
    ⟨(some 47), none, .mov (.t 46)⟩,
    ⟨(some 48), (some (47, true)), .mov (.t 6)⟩,
    ⟨(some 49), (some (47, true)), .mov (.t 10)⟩,
    ⟨(some 50), (some (47, true)), .eqs false false [.b] (.t 48) (.t 49)⟩,
    ⟨(some 51), none, .pick (.t 47) (.t 50) (.c (.g (.bool false)))⟩,
    ⟨(some 52), none, .mov (.t 51)⟩,
    ⟨(some 53), (some (52, true)), .mov (.t 7)⟩,
    ⟨(some 54), (some (52, true)), .mov (.t 11)⟩,
    ⟨(some 55), (some (52, true)), .call (.c (.g (.fn 27))) [(.t 53), (.t 54)]⟩,
    ⟨(some 56), none, .pick (.t 52) (.t 55) (.c (.g (.bool false)))⟩,
    ⟨(some 57), none, .mov (.t 56)⟩,
    ⟨(some 58), (some (57, true)), .mov (.t 8)⟩,
    ⟨(some 59), (some (57, true)), .mov (.t 12)⟩,
    ⟨(some 60), (some (57, true)), .bin .eql (.t 58) (.t 59)⟩,
    ⟨(some 61), none, .pick (.t 57) (.t 60) (.c (.g (.bool false)))⟩,
    ⟨(some 62), none, .mov (.t 61)⟩,
    ⟨(some 63), (some (62, true)), .call (.c (.g (.fn 16))) []⟩,
    ⟨(some 64), none, .pick (.t 62) (.t 63) (.c (.g (.bool false)))⟩,
    ⟨(some 4), none, .mov (.t 64)⟩]) <|
 .ret⟩
def h4 : List (List Nat) := [[2, 3], [2, 3, 26], [2, 3], [4], [2, 3, 5, 6, 7, 8], [5, 6, 7, 8, 9, 10, 11, 12], [4]]
theorem c4 : cFunc Try.prog 4 false h4 = some F4 := by kernel_rfl

/-- baton/batonlaw06.TxnMakes -/
def F5 : IFunc := ⟨3, 71, [.tmp 6], false,
 .seq (.reg [0, 1, 5] [⟨(some 5), none, .box (.t 2)⟩,
    ⟨(some 6), none, .mov (.c (.g (.bool false)))⟩]) <|
 .seq (.seq (.reg [0, 1, 5, 18] [⟨(some 11), none, .mov (.t 0)⟩,
     ⟨(some 12), none, .lenS (.t 11)⟩,
     ⟨(some 13), none, .bin .gtr (.t 12) (.c (.g (.int .i64 100)))⟩,
     ⟨(some 14), none, .mov (.t 13)⟩,
     ⟨(some 15), (some (14, false)), .mov (.t 1)⟩,
     ⟨(some 16), (some (14, false)), .lenS (.t 15)⟩,
     ⟨(some 17), (some (14, false)), .bin .gtr (.t 16) (.c (.g (.int .i64 100)))⟩,
     ⟨(some 18), none, .pick (.t 14) (.c (.g (.bool true))) (.t 17)⟩]) <|
  .cond [0, 1, 5] (.t 18)
   (.seq (.reg [6] [⟨(some 19), none, .call (.c (.g (.fn 16))) []⟩,
       ⟨(some 6), none, .mov (.t 19)⟩]) <|
    .ret)
   (.skip)) <|
 .seq (.drw [0, 5, 7, 8] 2 <|
  .hold [5] <|
  .take ⟨(some 20), none, .mov (.t 0)⟩ <|
  .take ⟨(some 21), none, .mov (.t 1)⟩ <|
  .take ⟨(some 22), none, .iaddrA 2 1 (.t 5) (.c (.g (.int .i64 0)))⟩ <|
  .take ⟨(some 23), none, .load false 1 (.t 22)⟩ <|
  .take ⟨(some 25), none, .mov (.t 0)⟩ <|
  .take ⟨(some 26), none, .mov (.t 1)⟩ <|
  .take ⟨(some 27), none, .iaddrA 2 1 (.t 5) (.c (.g (.int .i64 0)))⟩ <|
  .take ⟨(some 28), none, .load false 1 (.t 27)⟩ <|
  .alt ⟨(some 24), none, .call (.c (.g (.fn 28))) [(.t 20), (.t 21), (.t 23)]⟩
  (.alt ⟨(some 29), none, .call (.c (.g (.fn 29))) [(.t 25), (.t 26), (.t 28)]⟩
   (.alt ⟨(some 7), none, .allocAt 0 [.s 5, .s 4, .s 4]⟩
    (.one ⟨(some 8), none, .allocAt 1 [.s 5, .s 4, .s 4]⟩ <|
     .one ⟨none, none, .store 3 (.t 7) (.t 24)⟩ <|
     .free <|
     .one ⟨none, none, .store 3 (.t 8) (.t 29)⟩ <|
     .leaf)
    (.one ⟨(some 8), none, .allocAt 1 [.s 5, .s 4, .s 4]⟩ <|
     .one ⟨(some 7), none, .allocAt 0 [.s 5, .s 4, .s 4]⟩ <|
     .one ⟨none, none, .store 3 (.t 7) (.t 24)⟩ <|
     .free <|
     .one ⟨none, none, .store 3 (.t 8) (.t 29)⟩ <|
     .leaf))
   (.alt ⟨(some 7), none, .allocAt 0 [.s 5, .s 4, .s 4]⟩
    (.alt ⟨(some 29), none, .call (.c (.g (.fn 29))) [(.t 25), (.t 26), (.t 28)]⟩
     (.one ⟨(some 8), none, .allocAt 1 [.s 5, .s 4, .s 4]⟩ <|
      .one ⟨none, none, .store 3 (.t 7) (.t 24)⟩ <|
      .free <|
      .one ⟨none, none, .store 3 (.t 8) (.t 29)⟩ <|
      .leaf)
     (.one ⟨(some 8), none, .allocAt 1 [.s 5, .s 4, .s 4]⟩ <|
      .one ⟨(some 29), none, .call (.c (.g (.fn 29))) [(.t 25), (.t 26), (.t 28)]⟩ <|
      .one ⟨none, none, .store 3 (.t 7) (.t 24)⟩ <|
      .free <|
      .one ⟨none, none, .store 3 (.t 8) (.t 29)⟩ <|
      .leaf))
    (.one ⟨(some 8), none, .allocAt 1 [.s 5, .s 4, .s 4]⟩ <|
     .alt ⟨(some 29), none, .call (.c (.g (.fn 29))) [(.t 25), (.t 26), (.t 28)]⟩
     (.one ⟨(some 7), none, .allocAt 0 [.s 5, .s 4, .s 4]⟩ <|
      .one ⟨none, none, .store 3 (.t 7) (.t 24)⟩ <|
      .free <|
      .one ⟨none, none, .store 3 (.t 8) (.t 29)⟩ <|
      .leaf)
     (.one ⟨(some 7), none, .allocAt 0 [.s 5, .s 4, .s 4]⟩ <|
      .one ⟨(some 29), none, .call (.c (.g (.fn 29))) [(.t 25), (.t 26), (.t 28)]⟩ <|
      .one ⟨none, none, .store 3 (.t 7) (.t 24)⟩ <|
      .free <|
      .one ⟨none, none, .store 3 (.t 8) (.t 29)⟩ <|
      .leaf))))
  (.alt ⟨(some 7), none, .allocAt 0 [.s 5, .s 4, .s 4]⟩
   (.alt ⟨(some 24), none, .call (.c (.g (.fn 28))) [(.t 20), (.t 21), (.t 23)]⟩
    (.alt ⟨(some 29), none, .call (.c (.g (.fn 29))) [(.t 25), (.t 26), (.t 28)]⟩
     (.one ⟨(some 8), none, .allocAt 1 [.s 5, .s 4, .s 4]⟩ <|
      .one ⟨none, none, .store 3 (.t 7) (.t 24)⟩ <|
      .free <|
      .one ⟨none, none, .store 3 (.t 8) (.t 29)⟩ <|
      .leaf)
     (.one ⟨(some 8), none, .allocAt 1 [.s 5, .s 4, .s 4]⟩ <|
      .one ⟨(some 29), none, .call (.c (.g (.fn 29))) [(.t 25), (.t 26), (.t 28)]⟩ <|
      .one ⟨none, none, .store 3 (.t 7) (.t 24)⟩ <|
      .free <|
      .one ⟨none, none, .store 3 (.t 8) (.t 29)⟩ <|
      .leaf))
    (.one ⟨(some 8), none, .allocAt 1 [.s 5, .s 4, .s 4]⟩ <|
     .one ⟨(some 24), none, .call (.c (.g (.fn 28))) [(.t 20), (.t 21), (.t 23)]⟩ <|
     .one ⟨(some 29), none, .call (.c (.g (.fn 29))) [(.t 25), (.t 26), (.t 28)]⟩ <|
     .one ⟨none, none, .store 3 (.t 7) (.t 24)⟩ <|
     .free <|
     .one ⟨none, none, .store 3 (.t 8) (.t 29)⟩ <|
     .leaf))
   (.one ⟨(some 8), none, .allocAt 1 [.s 5, .s 4, .s 4]⟩ <|
    .alt ⟨(some 24), none, .call (.c (.g (.fn 28))) [(.t 20), (.t 21), (.t 23)]⟩
    (.alt ⟨(some 29), none, .call (.c (.g (.fn 29))) [(.t 25), (.t 26), (.t 28)]⟩
     (.one ⟨(some 7), none, .allocAt 0 [.s 5, .s 4, .s 4]⟩ <|
      .one ⟨none, none, .store 3 (.t 7) (.t 24)⟩ <|
      .free <|
      .one ⟨none, none, .store 3 (.t 8) (.t 29)⟩ <|
      .leaf)
     (.one ⟨(some 7), none, .allocAt 0 [.s 5, .s 4, .s 4]⟩ <|
      .one ⟨(some 29), none, .call (.c (.g (.fn 29))) [(.t 25), (.t 26), (.t 28)]⟩ <|
      .one ⟨none, none, .store 3 (.t 7) (.t 24)⟩ <|
      .free <|
      .one ⟨none, none, .store 3 (.t 8) (.t 29)⟩ <|
      .leaf))
    (.one ⟨(some 7), none, .allocAt 0 [.s 5, .s 4, .s 4]⟩ <|
     .one ⟨(some 24), none, .call (.c (.g (.fn 28))) [(.t 20), (.t 21), (.t 23)]⟩ <|
     .one ⟨(some 29), none, .call (.c (.g (.fn 29))) [(.t 25), (.t 26), (.t 28)]⟩ <|
     .one ⟨none, none, .store 3 (.t 7) (.t 24)⟩ <|
     .free <|
     .one ⟨none, none, .store 3 (.t 8) (.t 29)⟩ <|
     .leaf)))) <|
 .seq (.drw [0, 5, 7, 8, 9, 10] 2 <|
  .hold [5] <|
  .take ⟨(some 30), none, .mov (.t 0)⟩ <|
  .take ⟨(some 31), none, .iaddrA 2 1 (.t 5) (.c (.g (.int .i64 1)))⟩ <|
  .take ⟨(some 32), none, .load false 1 (.t 31)⟩ <|
  .take ⟨(some 34), none, .mov (.t 0)⟩ <|
  .take ⟨(some 35), none, .iaddrA 2 1 (.t 5) (.c (.g (.int .i64 1)))⟩ <|
  .take ⟨(some 36), none, .load false 1 (.t 35)⟩ <|
  .alt ⟨(some 33), none, .call (.c (.g (.fn 30))) [(.t 30), (.t 32)]⟩
  (.alt ⟨(some 37), none, .call (.c (.g (.fn 31))) [(.t 34), (.t 36)]⟩
   (.alt ⟨(some 9), none, .allocAt 0 [.s 5, .s 4, .s 4]⟩
    (.one ⟨(some 10), none, .allocAt 1 [.s 5, .s 4, .s 4]⟩ <|
     .one ⟨none, none, .store 3 (.t 9) (.t 33)⟩ <|
     .free <|
     .one ⟨none, none, .store 3 (.t 10) (.t 37)⟩ <|
     .leaf)
    (.one ⟨(some 10), none, .allocAt 1 [.s 5, .s 4, .s 4]⟩ <|
     .one ⟨(some 9), none, .allocAt 0 [.s 5, .s 4, .s 4]⟩ <|
     .one ⟨none, none, .store 3 (.t 9) (.t 33)⟩ <|
     .free <|
     .one ⟨none, none, .store 3 (.t 10) (.t 37)⟩ <|
     .leaf))
   (.alt ⟨(some 9), none, .allocAt 0 [.s 5, .s 4, .s 4]⟩
    (.alt ⟨(some 37), none, .call (.c (.g (.fn 31))) [(.t 34), (.t 36)]⟩
     (.one ⟨(some 10), none, .allocAt 1 [.s 5, .s 4, .s 4]⟩ <|
      .one ⟨none, none, .store 3 (.t 9) (.t 33)⟩ <|
      .free <|
      .one ⟨none, none, .store 3 (.t 10) (.t 37)⟩ <|
      .leaf)
     (.one ⟨(some 10), none, .allocAt 1 [.s 5, .s 4, .s 4]⟩ <|
      .one ⟨(some 37), none, .call (.c (.g (.fn 31))) [(.t 34), (.t 36)]⟩ <|
      .one ⟨none, none, .store 3 (.t 9) (.t 33)⟩ <|
      .free <|
      .one ⟨none, none, .store 3 (.t 10) (.t 37)⟩ <|
      .leaf))
    (.one ⟨(some 10), none, .allocAt 1 [.s 5, .s 4, .s 4]⟩ <|
     .alt ⟨(some 37), none, .call (.c (.g (.fn 31))) [(.t 34), (.t 36)]⟩
     (.one ⟨(some 9), none, .allocAt 0 [.s 5, .s 4, .s 4]⟩ <|
      .one ⟨none, none, .store 3 (.t 9) (.t 33)⟩ <|
      .free <|
      .one ⟨none, none, .store 3 (.t 10) (.t 37)⟩ <|
      .leaf)
     (.one ⟨(some 9), none, .allocAt 0 [.s 5, .s 4, .s 4]⟩ <|
      .one ⟨(some 37), none, .call (.c (.g (.fn 31))) [(.t 34), (.t 36)]⟩ <|
      .one ⟨none, none, .store 3 (.t 9) (.t 33)⟩ <|
      .free <|
      .one ⟨none, none, .store 3 (.t 10) (.t 37)⟩ <|
      .leaf))))
  (.alt ⟨(some 9), none, .allocAt 0 [.s 5, .s 4, .s 4]⟩
   (.alt ⟨(some 33), none, .call (.c (.g (.fn 30))) [(.t 30), (.t 32)]⟩
    (.alt ⟨(some 37), none, .call (.c (.g (.fn 31))) [(.t 34), (.t 36)]⟩
     (.one ⟨(some 10), none, .allocAt 1 [.s 5, .s 4, .s 4]⟩ <|
      .one ⟨none, none, .store 3 (.t 9) (.t 33)⟩ <|
      .free <|
      .one ⟨none, none, .store 3 (.t 10) (.t 37)⟩ <|
      .leaf)
     (.one ⟨(some 10), none, .allocAt 1 [.s 5, .s 4, .s 4]⟩ <|
      .one ⟨(some 37), none, .call (.c (.g (.fn 31))) [(.t 34), (.t 36)]⟩ <|
      .one ⟨none, none, .store 3 (.t 9) (.t 33)⟩ <|
      .free <|
      .one ⟨none, none, .store 3 (.t 10) (.t 37)⟩ <|
      .leaf))
    (.one ⟨(some 10), none, .allocAt 1 [.s 5, .s 4, .s 4]⟩ <|
     .one ⟨(some 33), none, .call (.c (.g (.fn 30))) [(.t 30), (.t 32)]⟩ <|
     .one ⟨(some 37), none, .call (.c (.g (.fn 31))) [(.t 34), (.t 36)]⟩ <|
     .one ⟨none, none, .store 3 (.t 9) (.t 33)⟩ <|
     .free <|
     .one ⟨none, none, .store 3 (.t 10) (.t 37)⟩ <|
     .leaf))
   (.one ⟨(some 10), none, .allocAt 1 [.s 5, .s 4, .s 4]⟩ <|
    .alt ⟨(some 33), none, .call (.c (.g (.fn 30))) [(.t 30), (.t 32)]⟩
    (.alt ⟨(some 37), none, .call (.c (.g (.fn 31))) [(.t 34), (.t 36)]⟩
     (.one ⟨(some 9), none, .allocAt 0 [.s 5, .s 4, .s 4]⟩ <|
      .one ⟨none, none, .store 3 (.t 9) (.t 33)⟩ <|
      .free <|
      .one ⟨none, none, .store 3 (.t 10) (.t 37)⟩ <|
      .leaf)
     (.one ⟨(some 9), none, .allocAt 0 [.s 5, .s 4, .s 4]⟩ <|
      .one ⟨(some 37), none, .call (.c (.g (.fn 31))) [(.t 34), (.t 36)]⟩ <|
      .one ⟨none, none, .store 3 (.t 9) (.t 33)⟩ <|
      .free <|
      .one ⟨none, none, .store 3 (.t 10) (.t 37)⟩ <|
      .leaf))
    (.one ⟨(some 9), none, .allocAt 0 [.s 5, .s 4, .s 4]⟩ <|
     .one ⟨(some 33), none, .call (.c (.g (.fn 30))) [(.t 30), (.t 32)]⟩ <|
     .one ⟨(some 37), none, .call (.c (.g (.fn 31))) [(.t 34), (.t 36)]⟩ <|
     .one ⟨none, none, .store 3 (.t 9) (.t 33)⟩ <|
     .free <|
     .one ⟨none, none, .store 3 (.t 10) (.t 37)⟩ <|
     .leaf)))) <|
 .seq (.drw [6] 0 <|
  .hold [5, 7, 8, 9, 10] <|
  .take ⟨(some 38), none, .mov (.t 0)⟩ <|
  .take ⟨(some 40), none, .mov (.t 0)⟩ <|
  .one ⟨(some 39), none, .call (.c (.g (.fn 32))) [(.t 38)]⟩ <|
  .one ⟨(some 41), none, .call (.c (.g (.fn 33))) [(.t 40)]⟩ <|
  .take ⟨(some 42), none, .eqs false true [.s, .i, .i, .i, .s] (.t 39) (.t 41)⟩ <|
  .take ⟨(some 43), none, .mov (.t 42)⟩ <|
  .take ⟨(some 44), (some (43, true)), .mov (.t 0)⟩ <|
  .take ⟨(some 45), (some (43, true)), .iaddrA 2 1 (.t 5) (.c (.g (.int .i64 1)))⟩ <|
  .take ⟨(some 46), (some (43, true)), .load false 1 (.t 45)⟩ <|
  .take ⟨(some 48), (some (43, true)), .mov (.t 0)⟩ <|
  .take ⟨(some 49), (some (43, true)), .iaddrA 2 1 (.t 5) (.c (.g (.int .i64 1)))⟩ <|
  .take ⟨(some 50), (some (43, true)), .load false 1 (.t 49)⟩ <|
  .one ⟨(some 47), (some (43, true)), .call (.c (.g (.fn 34))) [(.t 44), (.t 46)]⟩ <|
  .one ⟨(some 51), (some (43, true)), .call (.c (.g (.fn 35))) [(.t 48), (.t 50)]⟩ <|
  .take ⟨(some 52), (some (43, true)), .eqs false true [.s, .i, .i, .i, .s] (.t 47) (.t 51)⟩ <|
  .take ⟨(some 53), none, .pick (.t 43) (.t 52) (.c (.g (.bool false)))⟩ <|
  .take ⟨(some 54), none, .mov (.t 53)⟩ <|
  .take ⟨(some 55), (some (54, true)), .load true 3 (.t 7)⟩ <|
  .take ⟨(some 56), (some (54, true)), .build [.g (.int .i64 0), .g (.int .i64 0), .g (.int .i64 0), .g (.bool false), .g (.str []), .g (.str []), .g (.int .i64 0), .g (.int .i64 0), .g (.int .i64 0), .g (.int .i64 0), .g (.nsl), .g (.nsl), .g (.nsl)] [(10, 3, (.t 55))]⟩ <|
  .take ⟨(some 57), (some (54, true)), .load true 3 (.t 8)⟩ <|
  .take ⟨(some 58), (some (54, true)), .build [.g (.int .i64 0), .g (.int .i64 0), .g (.int .i64 0), .g (.bool false), .g (.str []), .g (.str []), .g (.int .i64 0), .g (.int .i64 0), .g (.int .i64 0), .g (.int .i64 0), .g (.nsl), .g (.nsl), .g (.nsl)] [(10, 3, (.t 57))]⟩ <|
  .one ⟨(some 59), (some (54, true)), .call (.c (.g (.fn 36))) [(.t 56), (.t 58)]⟩ <|
  .take ⟨(some 60), none, .pick (.t 54) (.t 59) (.c (.g (.bool false)))⟩ <|
  .take ⟨(some 61), none, .mov (.t 60)⟩ <|
  .take ⟨(some 62), (some (61, true)), .load true 3 (.t 9)⟩ <|
  .take ⟨(some 63), (some (61, true)), .build [.g (.int .i64 0), .g (.int .i64 0), .g (.int .i64 0), .g (.bool false), .g (.str []), .g (.str []), .g (.int .i64 0), .g (.int .i64 0), .g (.int .i64 0), .g (.int .i64 0), .g (.nsl), .g (.nsl), .g (.nsl)] [(10, 3, (.t 62))]⟩ <|
  .take ⟨(some 64), (some (61, true)), .load true 3 (.t 10)⟩ <|
  .take ⟨(some 65), (some (61, true)), .build [.g (.int .i64 0), .g (.int .i64 0), .g (.int .i64 0), .g (.bool false), .g (.str []), .g (.str []), .g (.int .i64 0), .g (.int .i64 0), .g (.int .i64 0), .g (.int .i64 0), .g (.nsl), .g (.nsl), .g (.nsl)] [(10, 3, (.t 64))]⟩ <|
  .one ⟨(some 66), (some (61, true)), .call (.c (.g (.fn 36))) [(.t 63), (.t 65)]⟩ <|
  .take ⟨(some 67), none, .pick (.t 61) (.t 66) (.c (.g (.bool false)))⟩ <|
  .take ⟨(some 68), none, .mov (.t 67)⟩ <|
  .one ⟨(some 69), (some (68, true)), .call (.c (.g (.fn 16))) []⟩ <|
  .take ⟨(some 70), none, .pick (.t 68) (.t 69) (.c (.g (.bool false)))⟩ <|
  .free <|
  .take ⟨(some 6), none, .mov (.t 70)⟩ <|
  .leaf) <|
 .ret⟩
def h5 : List (List Nat) := [[0, 1, 5], [0, 1, 5, 18], [0, 1, 5], [6], [0, 5, 7, 8], [5], [0, 5, 7, 8, 9, 10], [5], [6], [5, 7, 8, 9, 10]]
theorem c5 : cFunc Try.prog 5 false h5 = some F5 := by kernel_rfl

/-- baton/batonlaw05.MvccTells -/
def F6 : IFunc := ⟨2, 50, [.tmp 4], false,
 .seq (.reg [1, 2] [⟨(some 2), none, .box (.t 0)⟩,
    ⟨(some 4), none, .mov (.c (.g (.bool false)))⟩]) <|
 .seq (.seq (.reg [1, 2, 11] [⟨(some 9), none, .load true 4 (.t 2)⟩,
     ⟨(some 10), none, .call (.c (.g (.fn 21))) [(.t 9)]⟩,
     ⟨(some 11), none, .un .not (.t 10)⟩]) <|
  .cond [1, 2] (.t 11)
   (.seq (.reg [4] [⟨(some 12), none, .call (.c (.g (.fn 37))) []⟩,
       ⟨(some 4), none, .mov (.t 12)⟩]) <|
    .ret)
   (.skip)) <|
 .seq (.reg [1, 2, 5, 6] [⟨(some 14), none, .load true 4 (.t 2)⟩,
    ⟨(some 15), none, .mov (.t 1)⟩,
    ⟨(some 16), none, .call (.c (.g (.fn 38))) [(.t 14), (.t 15)]⟩,
    ⟨(some 13), none, .mov (.t 16)⟩,
    ⟨(some 17), none, .ext 0 (.t 13)⟩,
    ⟨(some 18), none, .ext 1 (.t 13)⟩,
    ⟨(some 5), none, .mov (.t 17)⟩,
    ⟨(some 6), none, .mov (.t 18)⟩]) <|
 .seq (.reg [2, 5, 6, 7, 8] [⟨(some 20), none, .load true 4 (.t 2)⟩,
    ⟨(some 21), none, .mov (.t 1)⟩,
    ⟨(some 22), none, .call (.c (.g (.fn 39))) [(.t 20), (.t 21)]⟩,
    ⟨(some 19), none, .mov (.t 22)⟩,
    ⟨(some 23), none, .ext 0 (.t 19)⟩,
    ⟨(some 24), none, .ext 1 (.t 19)⟩,
    ⟨(some 7), none, .mov (.t 23)⟩,
    ⟨(some 8), none, .mov (.t 24)⟩]) <|
 .seq (.drw [4] 0 <|
  .take ⟨(some 25), none, .load true 4 (.t 2)⟩ <|
  .take ⟨(some 27), none, .load true 4 (.t 2)⟩ <|
  .one ⟨(some 26), none, .call (.c (.g (.fn 40))) [(.t 25)]⟩ <|
  .one ⟨(some 28), none, .call (.c (.g (.fn 22))) [(.t 27)]⟩ <|
  .take ⟨(some 29), none, .eqs false false [.b] (.t 26) (.t 28)⟩ <|
  .take ⟨(some 30), none, .mov (.t 29)⟩ <|
  .alt ⟨(some 31), (some (30, true)), .load true 4 (.t 2)⟩
  (.alt ⟨(some 32), (some (30, true)), .call (.c (.g (.fn 42))) [(.t 31)]⟩
   (.one ⟨(some 33), (some (30, true)), .load true 4 (.t 2)⟩ <|
    .one ⟨(some 34), (some (30, true)), .call (.c (.g (.fn 43))) [(.t 33)]⟩ <|
    .one ⟨(some 35), (some (30, true)), .call (.c (.g (.fn 41))) [(.t 32), (.t 34)]⟩ <|
    .take ⟨(some 36), none, .pick (.t 30) (.t 35) (.c (.g (.bool false)))⟩ <|
    .take ⟨(some 37), none, .mov (.t 36)⟩ <|
    .take ⟨(some 38), (some (37, true)), .mov (.t 5)⟩ <|
    .take ⟨(some 39), (some (37, true)), .mov (.t 7)⟩ <|
    .one ⟨(some 40), (some (37, true)), .call (.c (.g (.fn 41))) [(.t 38), (.t 39)]⟩ <|
    .take ⟨(some 41), none, .pick (.t 37) (.t 40) (.c (.g (.bool false)))⟩ <|
    .take ⟨(some 42), none, .mov (.t 41)⟩ <|
    .take ⟨(some 43), (some (42, true)), .mov (.t 6)⟩ <|
    .take ⟨(some 44), (some (42, true)), .mov (.t 8)⟩ <|
    .take ⟨(some 45), (some (42, true)), .bin .eql (.t 43) (.t 44)⟩ <|
    .take ⟨(some 46), none, .pick (.t 42) (.t 45) (.c (.g (.bool false)))⟩ <|
    .take ⟨(some 47), none, .mov (.t 46)⟩ <|
    .one ⟨(some 48), (some (47, true)), .call (.c (.g (.fn 37))) []⟩ <|
    .take ⟨(some 49), none, .pick (.t 47) (.t 48) (.c (.g (.bool false)))⟩ <|
    .free <|
    .take ⟨(some 4), none, .mov (.t 49)⟩ <|
    .leaf)
   (.one ⟨(some 33), (some (30, true)), .load true 4 (.t 2)⟩ <|
    .one ⟨(some 32), (some (30, true)), .call (.c (.g (.fn 42))) [(.t 31)]⟩ <|
    .one ⟨(some 34), (some (30, true)), .call (.c (.g (.fn 43))) [(.t 33)]⟩ <|
    .one ⟨(some 35), (some (30, true)), .call (.c (.g (.fn 41))) [(.t 32), (.t 34)]⟩ <|
    .take ⟨(some 36), none, .pick (.t 30) (.t 35) (.c (.g (.bool false)))⟩ <|
    .take ⟨(some 37), none, .mov (.t 36)⟩ <|
    .take ⟨(some 38), (some (37, true)), .mov (.t 5)⟩ <|
    .take ⟨(some 39), (some (37, true)), .mov (.t 7)⟩ <|
    .one ⟨(some 40), (some (37, true)), .call (.c (.g (.fn 41))) [(.t 38), (.t 39)]⟩ <|
    .take ⟨(some 41), none, .pick (.t 37) (.t 40) (.c (.g (.bool false)))⟩ <|
    .take ⟨(some 42), none, .mov (.t 41)⟩ <|
    .take ⟨(some 43), (some (42, true)), .mov (.t 6)⟩ <|
    .take ⟨(some 44), (some (42, true)), .mov (.t 8)⟩ <|
    .take ⟨(some 45), (some (42, true)), .bin .eql (.t 43) (.t 44)⟩ <|
    .take ⟨(some 46), none, .pick (.t 42) (.t 45) (.c (.g (.bool false)))⟩ <|
    .take ⟨(some 47), none, .mov (.t 46)⟩ <|
    .one ⟨(some 48), (some (47, true)), .call (.c (.g (.fn 37))) []⟩ <|
    .take ⟨(some 49), none, .pick (.t 47) (.t 48) (.c (.g (.bool false)))⟩ <|
    .free <|
    .take ⟨(some 4), none, .mov (.t 49)⟩ <|
    .leaf))
  (.one ⟨(some 33), (some (30, true)), .load true 4 (.t 2)⟩ <|
   .one ⟨(some 31), (some (30, true)), .load true 4 (.t 2)⟩ <|
   .one ⟨(some 32), (some (30, true)), .call (.c (.g (.fn 42))) [(.t 31)]⟩ <|
   .one ⟨(some 34), (some (30, true)), .call (.c (.g (.fn 43))) [(.t 33)]⟩ <|
   .one ⟨(some 35), (some (30, true)), .call (.c (.g (.fn 41))) [(.t 32), (.t 34)]⟩ <|
   .take ⟨(some 36), none, .pick (.t 30) (.t 35) (.c (.g (.bool false)))⟩ <|
   .take ⟨(some 37), none, .mov (.t 36)⟩ <|
   .take ⟨(some 38), (some (37, true)), .mov (.t 5)⟩ <|
   .take ⟨(some 39), (some (37, true)), .mov (.t 7)⟩ <|
   .one ⟨(some 40), (some (37, true)), .call (.c (.g (.fn 41))) [(.t 38), (.t 39)]⟩ <|
   .take ⟨(some 41), none, .pick (.t 37) (.t 40) (.c (.g (.bool false)))⟩ <|
   .take ⟨(some 42), none, .mov (.t 41)⟩ <|
   .take ⟨(some 43), (some (42, true)), .mov (.t 6)⟩ <|
   .take ⟨(some 44), (some (42, true)), .mov (.t 8)⟩ <|
   .take ⟨(some 45), (some (42, true)), .bin .eql (.t 43) (.t 44)⟩ <|
   .take ⟨(some 46), none, .pick (.t 42) (.t 45) (.c (.g (.bool false)))⟩ <|
   .take ⟨(some 47), none, .mov (.t 46)⟩ <|
   .one ⟨(some 48), (some (47, true)), .call (.c (.g (.fn 37))) []⟩ <|
   .take ⟨(some 49), none, .pick (.t 47) (.t 48) (.c (.g (.bool false)))⟩ <|
   .free <|
   .take ⟨(some 4), none, .mov (.t 49)⟩ <|
   .leaf)) <|
 .ret⟩
def h6 : List (List Nat) := [[1, 2], [1, 2, 11], [1, 2], [4], [1, 2, 5, 6], [2, 5, 6, 7, 8], [4], []]
theorem c6 : cFunc Try.prog 6 false h6 = some F6 := by kernel_rfl

/-- baton/batonlaw05.MvccApplies -/
def F7 : IFunc := ⟨3, 88, [.tmp 6], false,
 .seq (.reg [1, 2, 3] [⟨(some 3), none, .box (.t 0)⟩,
    ⟨(some 6), none, .mov (.c (.g (.bool false)))⟩]) <|
 .seq (.seq (.reg [1, 2, 3, 34] [⟨(some 17), none, .load true 4 (.t 3)⟩,
     ⟨(some 18), none, .call (.c (.g (.fn 21))) [(.t 17)]⟩,
     ⟨(some 19), none, .un .not (.t 18)⟩,
     ⟨(some 20), none, .mov (.t 19)⟩,
     ⟨(some 21), (some (20, false)), .load true 4 (.t 3)⟩,
     ⟨(some 22), (some (20, false)), .call (.c (.g (.fn 40))) [(.t 21)]⟩,
     ⟨(some 23), (some (20, false)), .un .not (.t 22)⟩,
     ⟨(some 24), none, .pick (.t 20) (.c (.g (.bool true))) (.t 23)⟩,
     ⟨(some 25), none, .mov (.t 24)⟩,
     ⟨(some 26), (some (25, false)), .mov (.t 1)⟩,
     ⟨(some 27), (some (25, false)), .len (.t 26)⟩,
     ⟨(some 28), (some (25, false)), .bin .gtr (.t 27) (.c (.g (.int .i64 40)))⟩,
     ⟨(some 29), none, .pick (.t 25) (.c (.g (.bool true))) (.t 28)⟩,
     ⟨(some 30), none, .mov (.t 29)⟩,
     ⟨(some 31), (some (30, false)), .mov (.t 1)⟩,
     ⟨(some 32), (some (30, false)), .call (.c (.g (.fn 44))) [(.t 31)]⟩,
     ⟨(some 33), (some (30, false)), .un .not (.t 32)⟩,
     ⟨(some 34), none, .pick (.t 30) (.c (.g (.bool true))) (.t 33)⟩]) <|
  .cond [1, 2, 3] (.t 34)
   (.seq (.reg [6] [⟨(some 35), none, .call (.c (.g (.fn 37))) []⟩,
       ⟨(some 6), none, .mov (.t 35)⟩]) <|
    .ret)
   (.skip)) <|
 .seq (.reg [1, 2, 3, 7, 8, 9] [⟨(some 37), none, .load true 4 (.t 3)⟩,
    ⟨(some 38), none, .mov (.t 1)⟩,
    ⟨(some 39), none, .call (.c (.g (.fn 45))) [(.t 37), (.t 38)]⟩,
    ⟨(some 36), none, .mov (.t 39)⟩,
    ⟨(some 40), none, .ext 0 (.t 36)⟩,
    ⟨(some 41), none, .ext 1 (.t 36)⟩,
    ⟨(some 42), none, .ext 2 (.t 36)⟩,
    ⟨(some 7), none, .alloc [.z (.int .i64 0), .z (.int .i64 0), .s 6, .s 8]⟩,
    ⟨none, none, .store 4 (.t 7) (.t 40)⟩,
    ⟨(some 8), none, .mov (.t 41)⟩,
    ⟨(some 9), none, .mov (.t 42)⟩]) <|
 .seq (.reg [2, 3, 7, 8, 9, 10, 11, 12] [⟨(some 44), none, .load true 4 (.t 3)⟩,
    ⟨(some 45), none, .mov (.t 1)⟩,
    ⟨(some 46), none, .call (.c (.g (.fn 46))) [(.t 44), (.t 45)]⟩,
    ⟨(some 43), none, .mov (.t 46)⟩,
    ⟨(some 47), none, .ext 0 (.t 43)⟩,
    ⟨(some 48), none, .ext 1 (.t 43)⟩,
    ⟨(some 49), none, .ext 2 (.t 43)⟩,
    ⟨(some 10), none, .alloc [.z (.int .i64 0), .z (.int .i64 0), .s 6, .s 8]⟩,
    ⟨none, none, .store 4 (.t 10) (.t 47)⟩,
    ⟨(some 11), none, .mov (.t 48)⟩,
    ⟨(some 12), none, .mov (.t 49)⟩]) <|
 .seq (.reg [2, 3, 7, 8, 9, 10, 11, 12, 13, 14] [⟨(some 51), none, .load true 4 (.t 3)⟩,
    ⟨(some 52), none, .mov (.t 2)⟩,
    ⟨(some 53), none, .call (.c (.g (.fn 47))) [(.t 51), (.t 52)]⟩,
    ⟨(some 50), none, .mov (.t 53)⟩,
    ⟨(some 54), none, .ext 0 (.t 50)⟩,
    ⟨(some 55), none, .ext 1 (.t 50)⟩,
    ⟨(some 13), none, .alloc [.z (.int .i64 0), .z (.int .i64 0), .s 6, .s 8]⟩,
    ⟨none, none, .store 4 (.t 13) (.t 54)⟩,
    ⟨(some 14), none, .mov (.t 55)⟩]) <|
 .seq (.reg [7, 8, 9, 10, 11, 12, 13, 14, 15, 16] [⟨(some 57), none, .load true 4 (.t 3)⟩,
    ⟨(some 58), none, .mov (.t 2)⟩,
    ⟨(some 59), none, .call (.c (.g (.fn 48))) [(.t 57), (.t 58)]⟩,
    ⟨(some 56), none, .mov (.t 59)⟩,
    ⟨(some 60), none, .ext 0 (.t 56)⟩,
    ⟨(some 61), none, .ext 1 (.t 56)⟩,
    ⟨(some 15), none, .alloc [.z (.int .i64 0), .z (.int .i64 0), .s 6, .s 8]⟩,
    ⟨none, none, .store 4 (.t 15) (.t 60)⟩,
    ⟨(some 16), none, .mov (.t 61)⟩]) <|
 .seq (.reg [6] [⟨(some 62), none, .load true 4 (.t 7)⟩,
    ⟨(some 63), none, .load true 4 (.t 10)⟩,
    ⟨(some 64), none, .call (.c (.g (.fn 26))) [(.t 62), (.t 63)]⟩,
    ⟨(some 65), none, .mov (.t 64)⟩,
    ⟨(some 66), (some (65, true)), .mov (.t 8)⟩,
    ⟨(some 67), (some (65, true)), .mov (.t 11)⟩,
    ⟨(some 68), (some (65, true)), .call (.c (.g (.fn 27))) [(.t 66), (.t 67)]⟩,
    ⟨(some 69), none, .pick (.t 65) (.t 68) (.c (.g (.bool false)))⟩,
    ⟨(some 70), none, .mov (.t 69)⟩,
    ⟨(some 71), (some (70, true)), .mov (.t 9)⟩,
    ⟨(some 72), (some (70, true)), .mov (.t 12)⟩,
    ⟨(some 73), (some (70, true)), .bin .eql (.t 71) (.t 72)⟩,
    ⟨(some 74), none, .pick (.t 70) (.t 73) (.c (.g (.bool false)))⟩,
    ⟨(some 75), none, .mov (.t 74)⟩,
    ⟨(some 76), (some (75, true)), .load true 4 (.t 13)⟩,
    ⟨(some 77), (some (75, true)), .load true 4 (.t 15)⟩,
    ⟨(some 78), (some (75, true)), .call (.c (.g (.fn 26))) [(.t 76), (.t 77)]⟩,
    ⟨(some 79), none, .pick (.t 75) (.t 78) (.c (.g (.bool false)))⟩,
    ⟨(some 80), none, .mov (.t 79)⟩,
    ⟨(some 81), (some (80, true)), .mov (.t 14)⟩,
    ⟨(some 82), (some (80, true)), .mov (.t 16)⟩,
    ⟨(some 83), (some (80, true)), .bin .eql (.t 81) (.t 82)⟩,
    ⟨(some 84), none, .pick (.t 80) (.t 83) (.c (.g (.bool false)))⟩,
    ⟨(some 85), none, .mov (.t 84)⟩,
    ⟨(some 86), (some (85, true)), .call (.c (.g (.fn 37))) []⟩,
    ⟨(some 87), none, .pick (.t 85) (.t 86) (.c (.g (.bool false)))⟩,
    ⟨(some 6), none, .mov (.t 87)⟩]) <|
 .ret⟩
def h7 : List (List Nat) := [[1, 2, 3], [1, 2, 3, 34], [1, 2, 3], [6], [1, 2, 3, 7, 8, 9], [2, 3, 7, 8, 9, 10, 11, 12], [2, 3, 7, 8, 9, 10, 11, 12, 13, 14], [7, 8, 9, 10, 11, 12, 13, 14, 15, 16], [6]]
theorem c7 : cFunc Try.prog 7 false h7 = some F7 := by kernel_rfl

/-- baton/batonlaw05.MvccMay -/
def F8 : IFunc := ⟨3, 139, [.tmp 6], false,
 .seq (.reg [1, 2, 3] [⟨(some 3), none, .box (.t 0)⟩,
    ⟨(some 6), none, .mov (.c (.g (.bool false)))⟩]) <|
 .seq (.seq (.reg [1, 2, 3, 33] [⟨(some 16), none, .load true 4 (.t 3)⟩,
     ⟨(some 17), none, .call (.c (.g (.fn 21))) [(.t 16)]⟩,
     ⟨(some 18), none, .un .not (.t 17)⟩,
     ⟨(some 19), none, .mov (.t 18)⟩,
     ⟨(some 20), (some (19, false)), .load true 4 (.t 3)⟩,
     ⟨(some 21), (some (19, false)), .call (.c (.g (.fn 40))) [(.t 20)]⟩,
     ⟨(some 22), (some (19, false)), .un .not (.t 21)⟩,
     ⟨(some 23), none, .pick (.t 19) (.c (.g (.bool true))) (.t 22)⟩,
     ⟨(some 24), none, .mov (.t 23)⟩,
     ⟨(some 25), (some (24, false)), .mov (.t 1)⟩,
     ⟨(some 26), (some (24, false)), .len (.t 25)⟩,
     ⟨(some 27), (some (24, false)), .bin .gtr (.t 26) (.c (.g (.int .i64 40)))⟩,
     ⟨(some 28), none, .pick (.t 24) (.c (.g (.bool true))) (.t 27)⟩,
     ⟨(some 29), none, .mov (.t 28)⟩,
     ⟨(some 30), (some (29, false)), .mov (.t 1)⟩,
     ⟨(some 31), (some (29, false)), .call (.c (.g (.fn 44))) [(.t 30)]⟩,
     ⟨(some 32), (some (29, false)), .un .not (.t 31)⟩,
     ⟨(some 33), none, .pick (.t 29) (.c (.g (.bool true))) (.t 32)⟩]) <|
  .cond [1, 2, 3] (.t 33)
   (.seq (.reg [6] [⟨(some 34), none, .call (.c (.g (.fn 37))) []⟩,
       ⟨(some 6), none, .mov (.t 34)⟩]) <|
    .ret)
   (.skip)) <|
 .seq (.reg [2, 3, 7, 8, 9] [⟨(some 36), none, .load true 4 (.t 3)⟩,
    ⟨(some 37), none, .mov (.t 1)⟩,
    ⟨(some 38), none, .call (.c (.g (.fn 45))) [(.t 36), (.t 37)]⟩,
    ⟨(some 35), none, .mov (.t 38)⟩,
    ⟨(some 39), none, .ext 0 (.t 35)⟩,
    ⟨(some 40), none, .ext 1 (.t 35)⟩,
    ⟨(some 41), none, .ext 2 (.t 35)⟩,
    ⟨(some 7), none, .alloc [.z (.int .i64 0), .z (.int .i64 0), .s 6, .s 8]⟩,
    ⟨none, none, .store 4 (.t 7) (.t 39)⟩,
    ⟨(some 8), none, .mov (.t 40)⟩,
    ⟨(some 9), none, .mov (.t 41)⟩]) <|
 .seq (.seq (.reg [2, 3, 7, 8, 48] [⟨(some 42), none, .mov (.t 9)⟩,
     ⟨(some 43), none, .bin .neq (.t 42) (.c (.g (.int .i64 0)))⟩,
     ⟨(some 44), none, .mov (.t 43)⟩,
     ⟨(some 45), (some (44, false)), .mov (.t 8)⟩,
     ⟨(some 46), (some (44, false)), .len (.t 45)⟩,
     ⟨(some 47), (some (44, false)), .bin .eql (.t 46) (.c (.g (.int .i64 0)))⟩,
     ⟨(some 48), none, .pick (.t 44) (.c (.g (.bool true))) (.t 47)⟩]) <|
  .cond [2, 3, 7, 8] (.t 48)
   (.seq (.reg [6] [⟨(some 49), none, .load true 4 (.t 3)⟩,
       ⟨(some 50), none, .load true 4 (.t 7)⟩,
       ⟨(some 51), none, .call (.c (.g (.fn 26))) [(.t 49), (.t 50)]⟩,
       ⟨(some 52), none, .mov (.t 51)⟩,
       ⟨(some 53), (some (52, true)), .mov (.t 8)⟩,
       ⟨(some 54), (some (52, true)), .len (.t 53)⟩,
       ⟨(some 55), (some (52, true)), .bin .eql (.t 54) (.c (.g (.int .i64 0)))⟩,
       ⟨(some 56), none, .pick (.t 52) (.t 55) (.c (.g (.bool false)))⟩,
       ⟨(some 57), none, .mov (.t 56)⟩,
       ⟨(some 58), (some (57, true)), .call (.c (.g (.fn 37))) []⟩,
       ⟨(some 59), none, .pick (.t 57) (.t 58) (.c (.g (.bool false)))⟩,
       ⟨(some 6), none, .mov (.t 59)⟩]) <|
    .ret)
   (.skip)) <|
 .seq (.seq (.reg [2, 3, 7, 89] [⟨(some 60), none, .load true 4 (.t 7)⟩,
     ⟨(some 61), none, .call (.c (.g (.fn 40))) [(.t 60)]⟩,
     ⟨(some 62), none, .un .not (.t 61)⟩,
     ⟨(some 63), none, .mov (.t 62)⟩,
     ⟨(some 64), (some (63, false)), .faddr 0 (.t 7)⟩,
     ⟨(some 65), (some (63, false)), .load false 1 (.t 64)⟩,
     ⟨(some 66), (some (63, false)), .faddr 0 (.t 3)⟩,
     ⟨(some 67), (some (63, false)), .load false 1 (.t 66)⟩,
     ⟨(some 68), (some (63, false)), .bin .add (.t 67) (.c (.g (.int .i64 1)))⟩,
     ⟨(some 69), (some (63, false)), .bin .neq (.t 65) (.t 68)⟩,
     ⟨(some 70), none, .pick (.t 63) (.c (.g (.bool true))) (.t 69)⟩,
     ⟨(some 71), none, .mov (.t 70)⟩,
     ⟨(some 72), (some (71, false)), .faddr 1 (.t 7)⟩,
     ⟨(some 73), (some (71, false)), .load false 1 (.t 72)⟩,
     ⟨(some 74), (some (71, false)), .faddr 1 (.t 3)⟩,
     ⟨(some 75), (some (71, false)), .load false 1 (.t 74)⟩,
     ⟨(some 76), (some (71, false)), .bin .neq (.t 73) (.t 75)⟩,
     ⟨(some 77), none, .pick (.t 71) (.c (.g (.bool true))) (.t 76)⟩,
     ⟨(some 78), none, .mov (.t 77)⟩,
     ⟨(some 79), (some (78, false)), .faddr 3 (.t 7)⟩,
     ⟨(some 80), (some (78, false)), .load false 1 (.t 79)⟩,
     ⟨(some 81), (some (78, false)), .len (.t 80)⟩,
     ⟨(some 82), (some (78, false)), .faddr 3 (.t 3)⟩,
     ⟨(some 83), (some (78, false)), .load false 1 (.t 82)⟩,
     ⟨(some 84), (some (78, false)), .len (.t 83)⟩,
     ⟨(some 85), (some (78, false)), .mov (.t 8)⟩,
     ⟨(some 86), (some (78, false)), .len (.t 85)⟩,
     ⟨(some 87), (some (78, false)), .bin .add (.t 84) (.t 86)⟩,
     ⟨(some 88), (some (78, false)), .bin .neq (.t 81) (.t 87)⟩,
     ⟨(some 89), none, .pick (.t 78) (.c (.g (.bool true))) (.t 88)⟩]) <|
  .cond [2, 3, 7] (.t 89)
   (.seq (.reg [6] [⟨(some 6), none, .mov (.c (.g (.bool false)))⟩]) <|
    .ret)
   (.skip)) <|
 .seq (.reg [2, 3, 7, 10, 11] [⟨(some 91), none, .load true 4 (.t 3)⟩,
    ⟨(some 92), none, .mov (.t 2)⟩,
    ⟨(some 93), none, .call (.c (.g (.fn 38))) [(.t 91), (.t 92)]⟩,
    ⟨(some 90), none, .mov (.t 93)⟩,
    ⟨(some 94), none, .ext 0 (.t 90)⟩,
    ⟨(some 95), none, .ext 1 (.t 90)⟩,
    ⟨(some 10), none, .mov (.t 94)⟩,
    ⟨(some 11), none, .mov (.t 95)⟩]) <|
 .seq (.reg [2, 3, 7, 10, 11, 12, 13] [⟨(some 97), none, .load true 4 (.t 7)⟩,
    ⟨(some 98), none, .mov (.t 2)⟩,
    ⟨(some 99), none, .call (.c (.g (.fn 38))) [(.t 97), (.t 98)]⟩,
    ⟨(some 96), none, .mov (.t 99)⟩,
    ⟨(some 100), none, .ext 0 (.t 96)⟩,
    ⟨(some 101), none, .ext 1 (.t 96)⟩,
    ⟨(some 12), none, .mov (.t 100)⟩,
    ⟨(some 13), none, .mov (.t 101)⟩]) <|
 .seq (.seq (.reg [7, 120] [⟨(some 102), none, .mov (.t 2)⟩,
     ⟨(some 103), none, .bin .neq (.t 102) (.c (.g (.int .i64 0)))⟩,
     ⟨(some 104), none, .mov (.t 103)⟩,
     ⟨(some 105), (some (104, true)), .mov (.t 2)⟩,
     ⟨(some 106), (some (104, true)), .faddr 0 (.t 3)⟩,
     ⟨(some 107), (some (104, true)), .load false 1 (.t 106)⟩,
     ⟨(some 108), (some (104, true)), .bin .leq (.t 105) (.t 107)⟩,
     ⟨(some 109), none, .pick (.t 104) (.t 108) (.c (.g (.bool false)))⟩,
     ⟨(some 110), none, .mov (.t 109)⟩,
     ⟨(some 111), (some (110, true)), .mov (.t 10)⟩,
     ⟨(some 112), (some (110, true)), .mov (.t 12)⟩,
     ⟨(some 113), (some (110, true)), .call (.c (.g (.fn 41))) [(.t 111), (.t 112)]⟩,
     ⟨(some 114), (some (110, true)), .un .not (.t 113)⟩,
     ⟨(some 115), (some (110, true)), .mov (.t 114)⟩,
     ⟨(some 116), (some (115, false)), .mov (.t 11)⟩,
     ⟨(some 117), (some (115, false)), .mov (.t 13)⟩,
     ⟨(some 118), (some (115, false)), .bin .neq (.t 116) (.t 117)⟩,
     ⟨(some 119), (some (110, true)), .pick (.t 115) (.c (.g (.bool true))) (.t 118)⟩,
     ⟨(some 120), none, .pick (.t 110) (.t 119) (.c (.g (.bool false)))⟩]) <|
  .cond [7] (.t 120)
   (.seq (.reg [6] [⟨(some 6), none, .mov (.c (.g (.bool false)))⟩]) <|
    .ret)
   (.skip)) <|
 .seq (.reg [7, 14, 15] [⟨(some 122), none, .load true 4 (.t 7)⟩,
    ⟨(some 123), none, .faddr 0 (.t 7)⟩,
    ⟨(some 124), none, .load false 1 (.t 123)⟩,
    ⟨(some 125), none, .call (.c (.g (.fn 38))) [(.t 122), (.t 124)]⟩,
    ⟨(some 121), none, .mov (.t 125)⟩,
    ⟨(some 126), none, .ext 0 (.t 121)⟩,
    ⟨(some 127), none, .ext 1 (.t 121)⟩,
    ⟨(some 14), none, .mov (.t 126)⟩,
    ⟨(some 15), none, .mov (.t 127)⟩]) <|
 .seq (.reg [6] [⟨(some 128), none, .mov (.t 15)⟩,
    ⟨(some 129), none, .bin .eql (.t 128) (.c (.g (.int .i64 0)))⟩,
    ⟨(some 130), none, .mov (.t 129)⟩,
    ⟨(some 131), (some (130, true)), .mov (.t 14)⟩,
    ⟨(some 132), (some (130, true)), .load true 4 (.t 7)⟩,
    ⟨(some 133), (some (130, true)), .call (.c (.g (.fn 42))) [(.t 132)]⟩,
    ⟨(some 134), (some (130, true)), .call (.c (.g (.fn 41))) [(.t 131), (.t 133)]⟩,
    ⟨(some 135), none, .pick (.t 130) (.t 134) (.c (.g (.bool false)))⟩,
    ⟨(some 136), none, .mov (.t 135)⟩,
    ⟨(some 137), (some (136, true)), .call (.c (.g (.fn 37))) []⟩,
    ⟨(some 138), none, .pick (.t 136) (.t 137) (.c (.g (.bool false)))⟩,
    ⟨(some 6), none, .mov (.t 138)⟩]) <|
 .ret⟩
def h8 : List (List Nat) := [[1, 2, 3], [1, 2, 3, 33], [1, 2, 3], [6], [2, 3, 7, 8, 9], [2, 3, 7, 8, 48], [2, 3, 7, 8], [6], [2, 3, 7, 89], [2, 3, 7], [6], [2, 3, 7, 10, 11], [2, 3, 7, 10, 11, 12, 13], [7, 120], [7], [6], [7, 14, 15], [6]]
theorem c8 : cFunc Try.prog 8 false h8 = some F8 := by kernel_rfl

/-- baton/batonlaw05.MvccShrinks -/
def F9 : IFunc := ⟨3, 129, [.tmp 6], false,
 .seq (.reg [1, 2, 3] [⟨(some 3), none, .box (.t 0)⟩,
    ⟨(some 6), none, .mov (.c (.g (.bool false)))⟩]) <|
 .seq (.seq (.reg [1, 2, 3, 22] [⟨(some 15), none, .load true 4 (.t 3)⟩,
     ⟨(some 16), none, .call (.c (.g (.fn 21))) [(.t 15)]⟩,
     ⟨(some 17), none, .un .not (.t 16)⟩,
     ⟨(some 18), none, .mov (.t 17)⟩,
     ⟨(some 19), (some (18, false)), .load true 4 (.t 3)⟩,
     ⟨(some 20), (some (18, false)), .call (.c (.g (.fn 40))) [(.t 19)]⟩,
     ⟨(some 21), (some (18, false)), .un .not (.t 20)⟩,
     ⟨(some 22), none, .pick (.t 18) (.c (.g (.bool true))) (.t 21)⟩]) <|
  .cond [1, 2, 3] (.t 22)
   (.seq (.reg [6] [⟨(some 23), none, .call (.c (.g (.fn 37))) []⟩,
       ⟨(some 6), none, .mov (.t 23)⟩]) <|
    .ret)
   (.skip)) <|
 .seq (.reg [1, 2, 3, 7, 8] [⟨(some 25), none, .load true 4 (.t 3)⟩,
    ⟨(some 26), none, .mov (.t 1)⟩,
    ⟨(some 27), none, .call (.c (.g (.fn 47))) [(.t 25), (.t 26)]⟩,
    ⟨(some 24), none, .mov (.t 27)⟩,
    ⟨(some 28), none, .ext 0 (.t 24)⟩,
    ⟨(some 29), none, .ext 1 (.t 24)⟩,
    ⟨(some 7), none, .alloc [.z (.int .i64 0), .z (.int .i64 0), .s 6, .s 8]⟩,
    ⟨none, none, .store 4 (.t 7) (.t 28)⟩,
    ⟨(some 8), none, .mov (.t 29)⟩]) <|
 .seq (.seq (.reg [1, 2, 3, 7, 31] [⟨(some 30), none, .mov (.t 8)⟩,
     ⟨(some 31), none, .bin .neq (.t 30) (.c (.g (.int .i64 0)))⟩]) <|
  .cond [1, 2, 3, 7] (.t 31)
   (.seq (.reg [6] [⟨(some 32), none, .load true 4 (.t 3)⟩,
       ⟨(some 33), none, .load true 4 (.t 7)⟩,
       ⟨(some 34), none, .call (.c (.g (.fn 26))) [(.t 32), (.t 33)]⟩,
       ⟨(some 35), none, .mov (.t 34)⟩,
       ⟨(some 36), (some (35, true)), .mov (.t 1)⟩,
       ⟨(some 37), (some (35, true)), .faddr 1 (.t 3)⟩,
       ⟨(some 38), (some (35, true)), .load false 1 (.t 37)⟩,
       ⟨(some 39), (some (35, true)), .bin .lss (.t 36) (.t 38)⟩,
       ⟨(some 40), (some (35, true)), .mov (.t 39)⟩,
       ⟨(some 41), (some (40, false)), .mov (.t 1)⟩,
       ⟨(some 42), (some (40, false)), .faddr 0 (.t 3)⟩,
       ⟨(some 43), (some (40, false)), .load false 1 (.t 42)⟩,
       ⟨(some 44), (some (40, false)), .bin .gtr (.t 41) (.t 43)⟩,
       ⟨(some 45), (some (35, true)), .pick (.t 40) (.c (.g (.bool true))) (.t 44)⟩,
       ⟨(some 46), none, .pick (.t 35) (.t 45) (.c (.g (.bool false)))⟩,
       ⟨(some 47), none, .mov (.t 46)⟩,
       ⟨(some 48), (some (47, true)), .call (.c (.g (.fn 37))) []⟩,
       ⟨(some 49), none, .pick (.t 47) (.t 48) (.c (.g (.bool false)))⟩,
       ⟨(some 6), none, .mov (.t 49)⟩]) <|
    .ret)
   (.skip)) <|
 .seq (.reg [1, 2, 3, 7, 9, 10] [⟨(some 51), none, .load true 4 (.t 7)⟩,
    ⟨(some 52), none, .mov (.t 1)⟩,
    ⟨(some 53), none, .call (.c (.g (.fn 47))) [(.t 51), (.t 52)]⟩,
    ⟨(some 50), none, .mov (.t 53)⟩,
    ⟨(some 54), none, .ext 0 (.t 50)⟩,
    ⟨(some 55), none, .ext 1 (.t 50)⟩,
    ⟨(some 9), none, .alloc [.z (.int .i64 0), .z (.int .i64 0), .s 6, .s 8]⟩,
    ⟨none, none, .store 4 (.t 9) (.t 54)⟩,
    ⟨(some 10), none, .mov (.t 55)⟩]) <|
 .seq (.reg [1, 2, 3, 7, 9, 10, 11, 12] [⟨(some 57), none, .load true 4 (.t 3)⟩,
    ⟨(some 58), none, .mov (.t 2)⟩,
    ⟨(some 59), none, .call (.c (.g (.fn 38))) [(.t 57), (.t 58)]⟩,
    ⟨(some 56), none, .mov (.t 59)⟩,
    ⟨(some 60), none, .ext 0 (.t 56)⟩,
    ⟨(some 61), none, .ext 1 (.t 56)⟩,
    ⟨(some 11), none, .mov (.t 60)⟩,
    ⟨(some 12), none, .mov (.t 61)⟩]) <|
 .seq (.reg [1, 2, 3, 7, 9, 10, 11, 12, 13, 14] [⟨(some 63), none, .load true 4 (.t 7)⟩,
    ⟨(some 64), none, .mov (.t 2)⟩,
    ⟨(some 65), none, .call (.c (.g (.fn 38))) [(.t 63), (.t 64)]⟩,
    ⟨(some 62), none, .mov (.t 65)⟩,
    ⟨(some 66), none, .ext 0 (.t 62)⟩,
    ⟨(some 67), none, .ext 1 (.t 62)⟩,
    ⟨(some 13), none, .mov (.t 66)⟩,
    ⟨(some 14), none, .mov (.t 67)⟩]) <|
 .seq (.seq (.drw [1, 2, 11, 12, 13, 14, 101] 0 <|
   .hold [3, 7, 9] <|
   .take ⟨(some 68), none, .load true 4 (.t 7)⟩ <|
   .one ⟨(some 69), none, .call (.c (.g (.fn 40))) [(.t 68)]⟩ <|
   .take ⟨(some 70), none, .un .not (.t 69)⟩ <|
   .take ⟨(some 71), none, .mov (.t 70)⟩ <|
   .take ⟨(some 72), (some (71, false)), .mov (.t 10)⟩ <|
   .take ⟨(some 73), (some (71, false)), .bin .neq (.t 72) (.c (.g (.int .i64 0)))⟩ <|
   .take ⟨(some 74), none, .pick (.t 71) (.c (.g (.bool true))) (.t 73)⟩ <|
   .take ⟨(some 75), none, .mov (.t 74)⟩ <|
   .take ⟨(some 76), (some (75, false)), .load true 4 (.t 7)⟩ <|
   .take ⟨(some 77), (some (75, false)), .load true 4 (.t 9)⟩ <|
   .one ⟨(some 78), (some (75, false)), .call (.c (.g (.fn 26))) [(.t 76), (.t 77)]⟩ <|
   .take ⟨(some 79), (some (75, false)), .un .not (.t 78)⟩ <|
   .take ⟨(some 80), none, .pick (.t 75) (.c (.g (.bool true))) (.t 79)⟩ <|
   .take ⟨(some 81), none, .mov (.t 80)⟩ <|
   .take ⟨(some 82), (some (81, false)), .faddr 0 (.t 7)⟩ <|
   .take ⟨(some 83), (some (81, false)), .load false 1 (.t 82)⟩ <|
   .take ⟨(some 84), (some (81, false)), .faddr 0 (.t 3)⟩ <|
   .take ⟨(some 85), (some (81, false)), .load false 1 (.t 84)⟩ <|
   .take ⟨(some 86), (some (81, false)), .bin .neq (.t 83) (.t 85)⟩ <|
   .take ⟨(some 87), none, .pick (.t 81) (.c (.g (.bool true))) (.t 86)⟩ <|
   .take ⟨(some 88), none, .mov (.t 87)⟩ <|
   .take ⟨(some 89), (some (88, false)), .faddr 1 (.t 7)⟩ <|
   .take ⟨(some 90), (some (88, false)), .load false 1 (.t 89)⟩ <|
   .take ⟨(some 91), (some (88, false)), .mov (.t 1)⟩ <|
   .take ⟨(some 92), (some (88, false)), .bin .neq (.t 90) (.t 91)⟩ <|
   .take ⟨(some 93), none, .pick (.t 88) (.c (.g (.bool true))) (.t 92)⟩ <|
   .take ⟨(some 94), none, .mov (.t 93)⟩ <|
   .take ⟨(some 95), (some (94, false)), .load true 4 (.t 3)⟩ <|
   .take ⟨(some 97), (some (94, false)), .load true 4 (.t 7)⟩ <|
   .one ⟨(some 96), (some (94, false)), .call (.c (.g (.fn 42))) [(.t 95)]⟩ <|
   .one ⟨(some 98), (some (94, false)), .call (.c (.g (.fn 42))) [(.t 97)]⟩ <|
   .one ⟨(some 99), (some (94, false)), .call (.c (.g (.fn 41))) [(.t 96), (.t 98)]⟩ <|
   .take ⟨(some 100), (some (94, false)), .un .not (.t 99)⟩ <|
   .take ⟨(some 101), none, .pick (.t 94) (.c (.g (.bool true))) (.t 100)⟩ <|
   .leaf) <|
  .cond [1, 2, 11, 12, 13, 14] (.t 101)
   (.seq (.reg [6] [⟨(some 6), none, .mov (.c (.g (.bool false)))⟩]) <|
    .ret)
   (.skip)) <|
 .seq (.seq (.reg [11, 12, 13, 14, 112] [⟨(some 102), none, .mov (.t 2)⟩,
     ⟨(some 103), none, .bin .neq (.t 102) (.c (.g (.int .i64 0)))⟩,
     ⟨(some 104), none, .mov (.t 103)⟩,
     ⟨(some 105), (some (104, true)), .mov (.t 2)⟩,
     ⟨(some 106), (some (104, true)), .mov (.t 1)⟩,
     ⟨(some 107), (some (104, true)), .bin .lss (.t 105) (.t 106)⟩,
     ⟨(some 108), none, .pick (.t 104) (.t 107) (.c (.g (.bool false)))⟩,
     ⟨(some 109), none, .mov (.t 108)⟩,
     ⟨(some 110), (some (109, true)), .mov (.t 2)⟩,
     ⟨(some 111), (some (109, true)), .bin .gtr (.t 110) (.c (.g (.int .i64 0)))⟩,
     ⟨(some 112), none, .pick (.t 109) (.t 111) (.c (.g (.bool false)))⟩]) <|
  .cond [11, 12, 13, 14] (.t 112)
   (.seq (.reg [6] [⟨(some 113), none, .mov (.t 14)⟩,
       ⟨(some 114), none, .bin .eql (.t 113) (.c (.g (.int .i64 9)))⟩,
       ⟨(some 115), none, .mov (.t 114)⟩,
       ⟨(some 116), (some (115, true)), .call (.c (.g (.fn 37))) []⟩,
       ⟨(some 117), none, .pick (.t 115) (.t 116) (.c (.g (.bool false)))⟩,
       ⟨(some 6), none, .mov (.t 117)⟩]) <|
    .ret)
   (.skip)) <|
 .seq (.reg [6] [⟨(some 118), none, .mov (.t 11)⟩,
    ⟨(some 119), none, .mov (.t 13)⟩,
    ⟨(some 120), none, .call (.c (.g (.fn 41))) [(.t 118), (.t 119)]⟩,
    ⟨(some 121), none, .mov (.t 120)⟩,
    ⟨(some 122), (some (121, true)), .mov (.t 12)⟩,
    ⟨(some 123), (some (121, true)), .mov (.t 14)⟩,
    ⟨(some 124), (some (121, true)), .bin .eql (.t 122) (.t 123)⟩,
    ⟨(some 125), none, .pick (.t 121) (.t 124) (.c (.g (.bool false)))⟩,
    ⟨(some 126), none, .mov (.t 125)⟩,
    ⟨(some 127), (some (126, true)), .call (.c (.g (.fn 37))) []⟩,
    ⟨(some 128), none, .pick (.t 126) (.t 127) (.c (.g (.bool false)))⟩,
    ⟨(some 6), none, .mov (.t 128)⟩]) <|
 .ret⟩
def h9 : List (List Nat) := [[1, 2, 3], [1, 2, 3, 22], [1, 2, 3], [6], [1, 2, 3, 7, 8], [1, 2, 3, 7, 31], [1, 2, 3, 7], [6], [1, 2, 3, 7, 9, 10], [1, 2, 3, 7, 9, 10, 11, 12], [1, 2, 3, 7, 9, 10, 11, 12, 13, 14], [1, 2, 11, 12, 13, 14, 101], [3, 7, 9], [1, 2, 11, 12, 13, 14], [6], [11, 12, 13, 14, 112], [11, 12, 13, 14], [6], [6]]
theorem c9 : cFunc Try.prog 9 false h9 = some F9 := by kernel_rfl

/-- baton/batonlaw05.MvccLays -/
def L10_0 : IC :=
 .seq (.seq (.reg [1, 5, 8, 9, 10, 11, 12, 65] [⟨(some 62), none, .mov (.t 12)⟩,
     ⟨(some 63), none, .mov (.t 9)⟩,
     ⟨(some 64), none, .len (.t 63)⟩,
     ⟨(some 65), none, .bin .lss (.t 62) (.t 64)⟩]) <|
  .cond [1, 5, 8, 9, 10, 11, 12] (.t 65)
   (.skip)
   (.exit 2)) <|
 .seq (.block [1, 5, 8, 9, 10, 11, 12] 3 <|
  .seq (.drw [1, 5, 8, 9, 10, 11, 12, 78] 0 <|
   .take ⟨(some 68), none, .mov (.t 9)⟩ <|
   .take ⟨(some 69), none, .mov (.t 12)⟩ <|
   .take ⟨(some 70), none, .iaddr 6 (.t 68) (.t 69)⟩ <|
   .take ⟨(some 71), none, .faddr 0 (.t 70)⟩ <|
   .take ⟨(some 72), none, .load false 1 (.t 71)⟩ <|
   .take ⟨(some 73), none, .mov (.t 1)⟩ <|
   .take ⟨(some 74), none, .mov (.t 10)⟩ <|
   .take ⟨(some 75), none, .iaddr 4 (.t 73) (.t 74)⟩ <|
   .take ⟨(some 76), none, .faddr 1 (.t 75)⟩ <|
   .take ⟨(some 77), none, .load false 1 (.t 76)⟩ <|
   .free <|
   .take ⟨(some 78), none, .bin .eql (.t 72) (.t 77)⟩ <|
   .leaf) <|
  .cond [1, 5, 8, 9, 10, 11, 12] (.t 78)
   (.seq (.drw [1, 5, 8, 9, 10, 11, 12] 0 <|
     .take ⟨(some 79), none, .mov (.t 9)⟩ <|
     .take ⟨(some 80), none, .mov (.t 12)⟩ <|
     .take ⟨(some 81), none, .iaddr 6 (.t 79) (.t 80)⟩ <|
     .take ⟨(some 82), none, .faddr 1 (.t 81)⟩ <|
     .take ⟨(some 83), none, .load false 1 (.t 82)⟩ <|
     .take ⟨(some 84), none, .mov (.t 1)⟩ <|
     .take ⟨(some 85), none, .mov (.t 10)⟩ <|
     .take ⟨(some 86), none, .iaddr 4 (.t 84) (.t 85)⟩ <|
     .take ⟨(some 87), none, .faddr 2 (.t 86)⟩ <|
     .take ⟨(some 88), none, .load false 1 (.t 87)⟩ <|
     .take ⟨(some 89), none, .bin .eql (.t 83) (.t 88)⟩ <|
     .take ⟨(some 90), none, .mov (.t 89)⟩ <|
     .take ⟨(some 91), (some (90, true)), .mov (.t 9)⟩ <|
     .take ⟨(some 92), (some (90, true)), .mov (.t 12)⟩ <|
     .take ⟨(some 93), (some (90, true)), .iaddr 6 (.t 91) (.t 92)⟩ <|
     .take ⟨(some 94), (some (90, true)), .faddr 5 (.t 93)⟩ <|
     .take ⟨(some 95), (some (90, true)), .load false 1 (.t 94)⟩ <|
     .take ⟨(some 96), (some (90, true)), .mov (.t 1)⟩ <|
     .take ⟨(some 97), (some (90, true)), .mov (.t 10)⟩ <|
     .take ⟨(some 98), (some (90, true)), .iaddr 4 (.t 96) (.t 97)⟩ <|
     .take ⟨(some 99), (some (90, true)), .faddr 3 (.t 98)⟩ <|
     .take ⟨(some 100), (some (90, true)), .load false 1 (.t 99)⟩ <|
     .take ⟨(some 101), (some (90, true)), .bin .eql (.t 95) (.t 100)⟩ <|
     .take ⟨(some 102), none, .pick (.t 90) (.t 101) (.c (.g (.bool false)))⟩ <|
     .take ⟨(some 103), none, .mov (.t 102)⟩ <|
     .take ⟨(some 104), (some (103, true)), .mov (.t 9)⟩ <|
     .take ⟨(some 105), (some (103, true)), .mov (.t 12)⟩ <|
     .take ⟨(some 106), (some (103, true)), .iaddr 6 (.t 104) (.t 105)⟩ <|
     .take ⟨(some 107), (some (103, true)), .faddr 3 (.t 106)⟩ <|
     .take ⟨(some 108), (some (103, true)), .load false 1 (.t 107)⟩ <|
     .take ⟨(some 109), (some (103, true)), .faddr 0 (.t 5)⟩ <|
     .take ⟨(some 110), (some (103, true)), .load false 1 (.t 109)⟩ <|
     .take ⟨(some 111), (some (103, true)), .bin .eql (.t 108) (.t 110)⟩ <|
     .take ⟨(some 112), none, .pick (.t 103) (.t 111) (.c (.g (.bool false)))⟩ <|
     .take ⟨(some 113), none, .mov (.t 112)⟩ <|
     .take ⟨(some 114), (some (113, true)), .mov (.t 1)⟩ <|
     .take ⟨(some 115), (some (113, true)), .mov (.t 10)⟩ <|
     .take ⟨(some 116), (some (113, true)), .iaddr 4 (.t 114) (.t 115)⟩ <|
     .take ⟨(some 117), (some (113, true)), .faddr 0 (.t 116)⟩ <|
     .take ⟨(some 118), (some (113, true)), .load false 1 (.t 117)⟩ <|
     .take ⟨(some 119), (some (113, true)), .un .not (.t 118)⟩ <|
     .take ⟨(some 120), none, .pick (.t 113) (.t 119) (.c (.g (.bool false)))⟩ <|
     .free <|
     .take ⟨(some 11), none, .mov (.t 120)⟩ <|
     .leaf) <|
    .seq (.reg [1, 5, 8, 9, 10, 11, 12, 122] [⟨(some 121), none, .mov (.t 11)⟩,
       ⟨(some 122), none, .un .not (.t 121)⟩]) <|
    .cond [1, 5, 8, 9, 10, 11, 12] (.t 122)
     (.seq (.reg [4] [⟨(some 4), none, .mov (.c (.g (.bool false)))⟩]) <|
      .ret)
     (.skip))
   (.skip)) <|
 .reg [1, 5, 8, 9, 10, 11, 12] [⟨(some 66), none, .mov (.t 12)⟩,
   ⟨(some 67), none, .bin .add (.t 66) (.c (.g (.int .i64 1)))⟩,
   ⟨(some 12), none, .mov (.t 67)⟩]
def L10_1 : IC :=
 .seq (.seq (.reg [1, 5, 8, 9, 10, 59] [⟨(some 56), none, .mov (.t 10)⟩,
     ⟨(some 57), none, .mov (.t 1)⟩,
     ⟨(some 58), none, .len (.t 57)⟩,
     ⟨(some 59), none, .bin .lss (.t 56) (.t 58)⟩]) <|
  .cond [1, 5, 8, 9, 10] (.t 59)
   (.skip)
   (.exit 0)) <|
 .seq (.block [1, 5, 8, 9, 10] 1 <|
  .seq (.reg [1, 5, 8, 9, 10, 11] [⟨(some 11), none, .mov (.c (.g (.bool false)))⟩]) <|
  .seq (.seq (.reg [1, 5, 8, 9, 10, 11, 12] [⟨(some 12), none, .mov (.c (.g (.int .i64 0)))⟩]) <|
   .block [1, 5, 8, 9, 10, 11] 2 <|
   .loop [1, 5, 8, 9, 10, 11, 12] [] L10_0) <|
  .seq (.reg [1, 5, 8, 9, 10, 129] [⟨(some 123), none, .mov (.t 11)⟩,
     ⟨(some 124), none, .mov (.t 1)⟩,
     ⟨(some 125), none, .mov (.t 10)⟩,
     ⟨(some 126), none, .iaddr 4 (.t 124) (.t 125)⟩,
     ⟨(some 127), none, .faddr 0 (.t 126)⟩,
     ⟨(some 128), none, .load false 1 (.t 127)⟩,
     ⟨(some 129), none, .eqs false false [.b] (.t 123) (.t 128)⟩]) <|
  .cond [1, 5, 8, 9, 10] (.t 129)
   (.seq (.reg [4] [⟨(some 4), none, .mov (.c (.g (.bool false)))⟩]) <|
    .ret)
   (.skip)) <|
 .reg [1, 5, 8, 9, 10] [⟨(some 60), none, .mov (.t 10)⟩,
   ⟨(some 61), none, .bin .add (.t 60) (.c (.g (.int .i64 1)))⟩,
   ⟨(some 10), none, .mov (.t 61)⟩]
def L10_2 : IC :=
 .seq (.seq (.reg [1, 8, 9, 13, 14, 15, 139] [⟨(some 136), none, .mov (.t 15)⟩,
     ⟨(some 137), none, .mov (.t 1)⟩,
     ⟨(some 138), none, .len (.t 137)⟩,
     ⟨(some 139), none, .bin .lss (.t 136) (.t 138)⟩]) <|
  .cond [1, 8, 9, 13, 14, 15] (.t 139)
   (.skip)
   (.exit 6)) <|
 .seq (.block [1, 8, 9, 13, 14, 15] 7 <|
  .drw [1, 8, 9, 13, 14, 15] 0 <|
  .take ⟨(some 142), none, .mov (.t 14)⟩ <|
  .take ⟨(some 143), none, .mov (.t 142)⟩ <|
  .take ⟨(some 144), (some (143, false)), .mov (.t 1)⟩ <|
  .take ⟨(some 145), (some (143, false)), .mov (.t 15)⟩ <|
  .take ⟨(some 146), (some (143, false)), .iaddr 4 (.t 144) (.t 145)⟩ <|
  .take ⟨(some 147), (some (143, false)), .faddr 1 (.t 146)⟩ <|
  .take ⟨(some 148), (some (143, false)), .load false 1 (.t 147)⟩ <|
  .take ⟨(some 149), (some (143, false)), .mov (.t 8)⟩ <|
  .take ⟨(some 150), (some (143, false)), .mov (.t 13)⟩ <|
  .take ⟨(some 151), (some (143, false)), .iaddr 6 (.t 149) (.t 150)⟩ <|
  .take ⟨(some 152), (some (143, false)), .faddr 0 (.t 151)⟩ <|
  .take ⟨(some 153), (some (143, false)), .load false 1 (.t 152)⟩ <|
  .take ⟨(some 154), (some (143, false)), .bin .eql (.t 148) (.t 153)⟩ <|
  .take ⟨(some 155), none, .pick (.t 143) (.c (.g (.bool true))) (.t 154)⟩ <|
  .free <|
  .take ⟨(some 14), none, .mov (.t 155)⟩ <|
  .leaf) <|
 .reg [1, 8, 9, 13, 14, 15] [⟨(some 140), none, .mov (.t 15)⟩,
   ⟨(some 141), none, .bin .add (.t 140) (.c (.g (.int .i64 1)))⟩,
   ⟨(some 15), none, .mov (.t 141)⟩]
def L10_3 : IC :=
 .seq (.seq (.reg [1, 8, 9, 13, 14, 16, 17, 159] [⟨(some 156), none, .mov (.t 17)⟩,
     ⟨(some 157), none, .mov (.t 9)⟩,
     ⟨(some 158), none, .len (.t 157)⟩,
     ⟨(some 159), none, .bin .lss (.t 156) (.t 158)⟩]) <|
  .cond [1, 8, 9, 13, 14, 16, 17] (.t 159)
   (.skip)
   (.exit 8)) <|
 .seq (.block [1, 8, 9, 13, 14, 16, 17] 9 <|
  .drw [1, 8, 9, 13, 14, 16, 17] 0 <|
  .take ⟨(some 162), none, .mov (.t 16)⟩ <|
  .take ⟨(some 163), none, .mov (.t 162)⟩ <|
  .take ⟨(some 164), (some (163, false)), .mov (.t 9)⟩ <|
  .take ⟨(some 165), (some (163, false)), .mov (.t 17)⟩ <|
  .take ⟨(some 166), (some (163, false)), .iaddr 6 (.t 164) (.t 165)⟩ <|
  .take ⟨(some 167), (some (163, false)), .load true 6 (.t 166)⟩ <|
  .take ⟨(some 168), (some (163, false)), .mov (.t 8)⟩ <|
  .take ⟨(some 169), (some (163, false)), .mov (.t 13)⟩ <|
  .take ⟨(some 170), (some (163, false)), .iaddr 6 (.t 168) (.t 169)⟩ <|
  .take ⟨(some 171), (some (163, false)), .load true 6 (.t 170)⟩ <|
  .take ⟨(some 172), (some (163, false)), .eqs false true [.s, .s, .i, .i, .i, .i] (.t 167) (.t 171)⟩ <|
  .take ⟨(some 173), none, .pick (.t 163) (.c (.g (.bool true))) (.t 172)⟩ <|
  .free <|
  .take ⟨(some 16), none, .mov (.t 173)⟩ <|
  .leaf) <|
 .reg [1, 8, 9, 13, 14, 16, 17] [⟨(some 160), none, .mov (.t 17)⟩,
   ⟨(some 161), none, .bin .add (.t 160) (.c (.g (.int .i64 1)))⟩,
   ⟨(some 17), none, .mov (.t 161)⟩]
def L10_4 : IC :=
 .seq (.seq (.reg [1, 8, 9, 13, 133] [⟨(some 130), none, .mov (.t 13)⟩,
     ⟨(some 131), none, .mov (.t 8)⟩,
     ⟨(some 132), none, .len (.t 131)⟩,
     ⟨(some 133), none, .bin .lss (.t 130) (.t 132)⟩]) <|
  .cond [1, 8, 9, 13] (.t 133)
   (.skip)
   (.exit 4)) <|
 .seq (.block [1, 8, 9, 13] 5 <|
  .seq (.reg [1, 8, 9, 13, 14] [⟨(some 14), none, .mov (.c (.g (.bool false)))⟩]) <|
  .seq (.seq (.reg [1, 8, 9, 13, 14, 15] [⟨(some 15), none, .mov (.c (.g (.int .i64 0)))⟩]) <|
   .block [1, 8, 9, 13, 14] 6 <|
   .loop [1, 8, 9, 13, 14, 15] [] L10_2) <|
  .seq (.reg [1, 8, 9, 13, 14, 16] [⟨(some 16), none, .mov (.c (.g (.bool false)))⟩]) <|
  .seq (.seq (.reg [1, 8, 9, 13, 14, 16, 17] [⟨(some 17), none, .mov (.c (.g (.int .i64 0)))⟩]) <|
   .block [1, 8, 9, 13, 14, 16] 8 <|
   .loop [1, 8, 9, 13, 14, 16, 17] [] L10_3) <|
  .seq (.reg [1, 8, 9, 13, 179] [⟨(some 174), none, .mov (.t 14)⟩,
     ⟨(some 175), none, .un .not (.t 174)⟩,
     ⟨(some 176), none, .mov (.t 175)⟩,
     ⟨(some 177), (some (176, true)), .mov (.t 16)⟩,
     ⟨(some 178), (some (176, true)), .un .not (.t 177)⟩,
     ⟨(some 179), none, .pick (.t 176) (.t 178) (.c (.g (.bool false)))⟩]) <|
  .cond [1, 8, 9, 13] (.t 179)
   (.seq (.reg [4] [⟨(some 4), none, .mov (.c (.g (.bool false)))⟩]) <|
    .ret)
   (.skip)) <|
 .reg [1, 8, 9, 13] [⟨(some 134), none, .mov (.t 13)⟩,
   ⟨(some 135), none, .bin .add (.t 134) (.c (.g (.int .i64 1)))⟩,
   ⟨(some 13), none, .mov (.t 135)⟩]
def F10 : IFunc := ⟨2, 181, [.tmp 4], false,
 .seq (.reg [1, 2] [⟨(some 2), none, .box (.t 0)⟩,
    ⟨(some 4), none, .mov (.c (.g (.bool false)))⟩]) <|
 .seq (.seq (.reg [1, 2, 35] [⟨(some 18), none, .load true 4 (.t 2)⟩,
     ⟨(some 19), none, .call (.c (.g (.fn 21))) [(.t 18)]⟩,
     ⟨(some 20), none, .un .not (.t 19)⟩,
     ⟨(some 21), none, .mov (.t 20)⟩,
     ⟨(some 22), (some (21, false)), .load true 4 (.t 2)⟩,
     ⟨(some 23), (some (21, false)), .call (.c (.g (.fn 40))) [(.t 22)]⟩,
     ⟨(some 24), (some (21, false)), .un .not (.t 23)⟩,
     ⟨(some 25), none, .pick (.t 21) (.c (.g (.bool true))) (.t 24)⟩,
     ⟨(some 26), none, .mov (.t 25)⟩,
     ⟨(some 27), (some (26, false)), .mov (.t 1)⟩,
     ⟨(some 28), (some (26, false)), .len (.t 27)⟩,
     ⟨(some 29), (some (26, false)), .bin .gtr (.t 28) (.c (.g (.int .i64 40)))⟩,
     ⟨(some 30), none, .pick (.t 26) (.c (.g (.bool true))) (.t 29)⟩,
     ⟨(some 31), none, .mov (.t 30)⟩,
     ⟨(some 32), (some (31, false)), .mov (.t 1)⟩,
     ⟨(some 33), (some (31, false)), .call (.c (.g (.fn 44))) [(.t 32)]⟩,
     ⟨(some 34), (some (31, false)), .un .not (.t 33)⟩,
     ⟨(some 35), none, .pick (.t 31) (.c (.g (.bool true))) (.t 34)⟩]) <|
  .cond [1, 2] (.t 35)
   (.seq (.reg [4] [⟨(some 36), none, .call (.c (.g (.fn 37))) []⟩,
       ⟨(some 4), none, .mov (.t 36)⟩]) <|
    .ret)
   (.skip)) <|
 .seq (.reg [1, 2, 5, 6, 7] [⟨(some 38), none, .load true 4 (.t 2)⟩,
    ⟨(some 39), none, .mov (.t 1)⟩,
    ⟨(some 40), none, .call (.c (.g (.fn 45))) [(.t 38), (.t 39)]⟩,
    ⟨(some 37), none, .mov (.t 40)⟩,
    ⟨(some 41), none, .ext 0 (.t 37)⟩,
    ⟨(some 42), none, .ext 1 (.t 37)⟩,
    ⟨(some 43), none, .ext 2 (.t 37)⟩,
    ⟨(some 5), none, .alloc [.z (.int .i64 0), .z (.int .i64 0), .s 6, .s 8]⟩,
    ⟨none, none, .store 4 (.t 5) (.t 41)⟩,
    ⟨(some 6), none, .mov (.t 42)⟩,
    ⟨(some 7), none, .mov (.t 43)⟩]) <|
 .seq (.seq (.reg [1, 2, 5, 6, 45] [⟨(some 44), none, .mov (.t 7)⟩,
     ⟨(some 45), none, .bin .neq (.t 44) (.c (.g (.int .i64 0)))⟩]) <|
  .cond [1, 2, 5] (.t 45)
   (.seq (.reg [4] [⟨(some 46), none, .mov (.t 6)⟩,
       ⟨(some 47), none, .len (.t 46)⟩,
       ⟨(some 48), none, .bin .eql (.t 47) (.c (.g (.int .i64 0)))⟩,
       ⟨(some 49), none, .mov (.t 48)⟩,
       ⟨(some 50), (some (49, true)), .call (.c (.g (.fn 37))) []⟩,
       ⟨(some 51), none, .pick (.t 49) (.t 50) (.c (.g (.bool false)))⟩,
       ⟨(some 4), none, .mov (.t 51)⟩]) <|
    .ret)
   (.skip)) <|
 .seq (.reg [1, 5, 8] [⟨(some 52), none, .load true 4 (.t 2)⟩,
    ⟨(some 53), none, .call (.c (.g (.fn 42))) [(.t 52)]⟩,
    ⟨(some 8), none, .mov (.t 53)⟩]) <|
 .seq (.reg [1, 5, 8, 9] [⟨(some 54), none, .load true 4 (.t 5)⟩,
    ⟨(some 55), none, .call (.c (.g (.fn 42))) [(.t 54)]⟩,
    ⟨(some 9), none, .mov (.t 55)⟩]) <|
 .seq (.seq (.reg [1, 5, 8, 9, 10] [⟨(some 10), none, .mov (.c (.g (.int .i64 0)))⟩]) <|
  .block [1, 8, 9] 0 <|
  .loop [1, 5, 8, 9, 10] [] L10_1) <|
 .seq (.seq (.reg [1, 8, 9, 13] [⟨(some 13), none, .mov (.c (.g (.int .i64 0)))⟩]) <|
  .block [] 4 <|
  .loop [1, 8, 9, 13] [] L10_4) <|
 .seq (.reg [4] [⟨(some 180), none, .call (.c (.g (.fn 37))) []⟩,
    ⟨(some 4), none, .mov (.t 180)⟩]) <|
 .ret⟩
def h10 : List (List Nat) := [[1, 2], [1, 2, 35], [1, 2], [4], [1, 2, 5, 6, 7], [1, 2, 5, 6, 45], [1, 2, 5], [4], [1, 5, 8], [1, 5, 8, 9], [1, 5, 8, 9, 10], [1, 8, 9], [1, 5, 8, 9, 10], [1, 5, 8, 9, 10, 59], [1, 5, 8, 9, 10], [1, 5, 8, 9, 10], [1, 5, 8, 9, 10, 11], [1, 5, 8, 9, 10, 11, 12], [1, 5, 8, 9, 10, 11], [1, 5, 8, 9, 10, 11, 12], [1, 5, 8, 9, 10, 11, 12, 65], [1, 5, 8, 9, 10, 11, 12], [1, 5, 8, 9, 10, 11, 12], [1, 5, 8, 9, 10, 11, 12, 78], [], [1, 5, 8, 9, 10, 11, 12], [1, 5, 8, 9, 10, 11, 12], [], [1, 5, 8, 9, 10, 11, 12, 122], [1, 5, 8, 9, 10, 11, 12], [4], [1, 5, 8, 9, 10, 11, 12], [1, 5, 8, 9, 10, 129], [1, 5, 8, 9, 10], [4], [1, 5, 8, 9, 10], [1, 8, 9, 13], [], [1, 8, 9, 13], [1, 8, 9, 13, 133], [1, 8, 9, 13], [1, 8, 9, 13], [1, 8, 9, 13, 14], [1, 8, 9, 13, 14, 15], [1, 8, 9, 13, 14], [1, 8, 9, 13, 14, 15], [1, 8, 9, 13, 14, 15, 139], [1, 8, 9, 13, 14, 15], [1, 8, 9, 13, 14, 15], [1, 8, 9, 13, 14, 15], [], [1, 8, 9, 13, 14, 15], [1, 8, 9, 13, 14, 16], [1, 8, 9, 13, 14, 16, 17], [1, 8, 9, 13, 14, 16], [1, 8, 9, 13, 14, 16, 17], [1, 8, 9, 13, 14, 16, 17, 159], [1, 8, 9, 13, 14, 16, 17], [1, 8, 9, 13, 14, 16, 17], [1, 8, 9, 13, 14, 16, 17], [], [1, 8, 9, 13, 14, 16, 17], [1, 8, 9, 13, 179], [1, 8, 9, 13], [4], [1, 8, 9, 13], [4]]
theorem c10 : cFunc Try.prog 10 false h10 = some F10 := by kernel_rfl

/-- baton/batonlaw05.MvccApart -/
def L11_0 : IC :=
 .seq (.seq (.reg [1, 2, 3, 7, 8, 62] [⟨(some 59), none, .mov (.t 8)⟩,
     ⟨(some 60), none, .mov (.t 2)⟩,
     ⟨(some 61), none, .len (.t 60)⟩,
     ⟨(some 62), none, .bin .lss (.t 59) (.t 61)⟩]) <|
  .cond [1, 2, 3, 7, 8] (.t 62)
   (.skip)
   (.exit 2)) <|
 .seq (.block [1, 2, 3, 7, 8] 3 <|
  .seq (.drw [1, 2, 3, 7, 8, 75] 0 <|
   .take ⟨(some 65), none, .mov (.t 1)⟩ <|
   .take ⟨(some 66), none, .mov (.t 7)⟩ <|
   .take ⟨(some 67), none, .iaddr 4 (.t 65) (.t 66)⟩ <|
   .take ⟨(some 68), none, .faddr 1 (.t 67)⟩ <|
   .take ⟨(some 69), none, .load false 1 (.t 68)⟩ <|
   .take ⟨(some 70), none, .mov (.t 2)⟩ <|
   .take ⟨(some 71), none, .mov (.t 8)⟩ <|
   .take ⟨(some 72), none, .iaddr 4 (.t 70) (.t 71)⟩ <|
   .take ⟨(some 73), none, .faddr 1 (.t 72)⟩ <|
   .take ⟨(some 74), none, .load false 1 (.t 73)⟩ <|
   .free <|
   .take ⟨(some 75), none, .bin .eql (.t 69) (.t 74)⟩ <|
   .leaf) <|
  .cond [1, 2, 3, 7, 8] (.t 75)
   (.seq (.reg [6] [⟨(some 76), none, .call (.c (.g (.fn 37))) []⟩,
       ⟨(some 6), none, .mov (.t 76)⟩]) <|
    .ret)
   (.skip)) <|
 .reg [1, 2, 3, 7, 8] [⟨(some 63), none, .mov (.t 8)⟩,
   ⟨(some 64), none, .bin .add (.t 63) (.c (.g (.int .i64 1)))⟩,
   ⟨(some 8), none, .mov (.t 64)⟩]
def L11_1 : IC :=
 .seq (.seq (.reg [1, 2, 3, 7, 56] [⟨(some 53), none, .mov (.t 7)⟩,
     ⟨(some 54), none, .mov (.t 1)⟩,
     ⟨(some 55), none, .len (.t 54)⟩,
     ⟨(some 56), none, .bin .lss (.t 53) (.t 55)⟩]) <|
  .cond [1, 2, 3, 7] (.t 56)
   (.skip)
   (.exit 0)) <|
 .seq (.block [1, 2, 3, 7] 1 <|
  .seq (.reg [1, 2, 3, 7, 8] [⟨(some 8), none, .mov (.c (.g (.int .i64 0)))⟩]) <|
  .block [1, 2, 3, 7] 2 <|
  .loop [1, 2, 3, 7, 8] [] L11_0) <|
 .reg [1, 2, 3, 7] [⟨(some 57), none, .mov (.t 7)⟩,
   ⟨(some 58), none, .bin .add (.t 57) (.c (.g (.int .i64 1)))⟩,
   ⟨(some 7), none, .mov (.t 58)⟩]
def L11_2 : IC :=
 .seq (.seq (.reg [21, 22, 23, 148] [⟨(some 145), none, .mov (.t 23)⟩,
     ⟨(some 146), none, .mov (.t 21)⟩,
     ⟨(some 147), none, .len (.t 146)⟩,
     ⟨(some 148), none, .bin .lss (.t 145) (.t 147)⟩]) <|
  .cond [21, 22, 23] (.t 148)
   (.skip)
   (.exit 4)) <|
 .seq (.block [21, 22, 23] 5 <|
  .seq (.drw [21, 22, 23, 200] 0 <|
   .take ⟨(some 151), none, .mov (.t 21)⟩ <|
   .take ⟨(some 152), none, .mov (.t 23)⟩ <|
   .take ⟨(some 153), none, .iaddr 6 (.t 151) (.t 152)⟩ <|
   .take ⟨(some 154), none, .faddr 0 (.t 153)⟩ <|
   .take ⟨(some 155), none, .load false 1 (.t 154)⟩ <|
   .take ⟨(some 156), none, .mov (.t 22)⟩ <|
   .take ⟨(some 157), none, .mov (.t 23)⟩ <|
   .take ⟨(some 158), none, .iaddr 6 (.t 156) (.t 157)⟩ <|
   .take ⟨(some 159), none, .faddr 0 (.t 158)⟩ <|
   .take ⟨(some 160), none, .load false 1 (.t 159)⟩ <|
   .take ⟨(some 161), none, .bin .neq (.t 155) (.t 160)⟩ <|
   .take ⟨(some 162), none, .mov (.t 161)⟩ <|
   .take ⟨(some 163), (some (162, false)), .mov (.t 21)⟩ <|
   .take ⟨(some 164), (some (162, false)), .mov (.t 23)⟩ <|
   .take ⟨(some 165), (some (162, false)), .iaddr 6 (.t 163) (.t 164)⟩ <|
   .take ⟨(some 166), (some (162, false)), .faddr 1 (.t 165)⟩ <|
   .take ⟨(some 167), (some (162, false)), .load false 1 (.t 166)⟩ <|
   .take ⟨(some 168), (some (162, false)), .mov (.t 22)⟩ <|
   .take ⟨(some 169), (some (162, false)), .mov (.t 23)⟩ <|
   .take ⟨(some 170), (some (162, false)), .iaddr 6 (.t 168) (.t 169)⟩ <|
   .take ⟨(some 171), (some (162, false)), .faddr 1 (.t 170)⟩ <|
   .take ⟨(some 172), (some (162, false)), .load false 1 (.t 171)⟩ <|
   .take ⟨(some 173), (some (162, false)), .bin .neq (.t 167) (.t 172)⟩ <|
   .take ⟨(some 174), none, .pick (.t 162) (.c (.g (.bool true))) (.t 173)⟩ <|
   .take ⟨(some 175), none, .mov (.t 174)⟩ <|
   .take ⟨(some 176), (some (175, false)), .mov (.t 21)⟩ <|
   .take ⟨(some 177), (some (175, false)), .mov (.t 23)⟩ <|
   .take ⟨(some 178), (some (175, false)), .iaddr 6 (.t 176) (.t 177)⟩ <|
   .take ⟨(some 179), (some (175, false)), .faddr 5 (.t 178)⟩ <|
   .take ⟨(some 180), (some (175, false)), .load false 1 (.t 179)⟩ <|
   .take ⟨(some 181), (some (175, false)), .mov (.t 22)⟩ <|
   .take ⟨(some 182), (some (175, false)), .mov (.t 23)⟩ <|
   .take ⟨(some 183), (some (175, false)), .iaddr 6 (.t 181) (.t 182)⟩ <|
   .take ⟨(some 184), (some (175, false)), .faddr 5 (.t 183)⟩ <|
   .take ⟨(some 185), (some (175, false)), .load false 1 (.t 184)⟩ <|
   .take ⟨(some 186), (some (175, false)), .bin .neq (.t 180) (.t 185)⟩ <|
   .take ⟨(some 187), none, .pick (.t 175) (.c (.g (.bool true))) (.t 186)⟩ <|
   .take ⟨(some 188), none, .mov (.t 187)⟩ <|
   .take ⟨(some 189), (some (188, false)), .mov (.t 21)⟩ <|
   .take ⟨(some 190), (some (188, false)), .mov (.t 23)⟩ <|
   .take ⟨(some 191), (some (188, false)), .iaddr 6 (.t 189) (.t 190)⟩ <|
   .take ⟨(some 192), (some (188, false)), .faddr 4 (.t 191)⟩ <|
   .take ⟨(some 193), (some (188, false)), .load false 1 (.t 192)⟩ <|
   .take ⟨(some 194), (some (188, false)), .mov (.t 22)⟩ <|
   .take ⟨(some 195), (some (188, false)), .mov (.t 23)⟩ <|
   .take ⟨(some 196), (some (188, false)), .iaddr 6 (.t 194) (.t 195)⟩ <|
   .take ⟨(some 197), (some (188, false)), .faddr 4 (.t 196)⟩ <|
   .take ⟨(some 198), (some (188, false)), .load false 1 (.t 197)⟩ <|
   .take ⟨(some 199), (some (188, false)), .bin .neq (.t 193) (.t 198)⟩ <|
   .take ⟨(some 200), none, .pick (.t 188) (.c (.g (.bool true))) (.t 199)⟩ <|
   .leaf) <|
  .cond [21, 22, 23] (.t 200)
   (.seq (.reg [6] [⟨(some 6), none, .mov (.c (.g (.bool false)))⟩]) <|
    .ret)
   (.skip)) <|
 .reg [21, 22, 23] [⟨(some 149), none, .mov (.t 23)⟩,
   ⟨(some 150), none, .bin .add (.t 149) (.c (.g (.int .i64 1)))⟩,
   ⟨(some 23), none, .mov (.t 150)⟩]
def F11 : IFunc := ⟨3, 202, [.tmp 6], false,
 .seq (.reg [1, 2, 3] [⟨(some 3), none, .box (.t 0)⟩,
    ⟨(some 6), none, .mov (.c (.g (.bool false)))⟩]) <|
 .seq (.seq (.reg [1, 2, 3, 51] [⟨(some 24), none, .load true 4 (.t 3)⟩,
     ⟨(some 25), none, .call (.c (.g (.fn 21))) [(.t 24)]⟩,
     ⟨(some 26), none, .un .not (.t 25)⟩,
     ⟨(some 27), none, .mov (.t 26)⟩,
     ⟨(some 28), (some (27, false)), .load true 4 (.t 3)⟩,
     ⟨(some 29), (some (27, false)), .call (.c (.g (.fn 40))) [(.t 28)]⟩,
     ⟨(some 30), (some (27, false)), .un .not (.t 29)⟩,
     ⟨(some 31), none, .pick (.t 27) (.c (.g (.bool true))) (.t 30)⟩,
     ⟨(some 32), none, .mov (.t 31)⟩,
     ⟨(some 33), (some (32, false)), .mov (.t 1)⟩,
     ⟨(some 34), (some (32, false)), .len (.t 33)⟩,
     ⟨(some 35), (some (32, false)), .bin .gtr (.t 34) (.c (.g (.int .i64 20)))⟩,
     ⟨(some 36), none, .pick (.t 32) (.c (.g (.bool true))) (.t 35)⟩,
     ⟨(some 37), none, .mov (.t 36)⟩,
     ⟨(some 38), (some (37, false)), .mov (.t 2)⟩,
     ⟨(some 39), (some (37, false)), .len (.t 38)⟩,
     ⟨(some 40), (some (37, false)), .bin .gtr (.t 39) (.c (.g (.int .i64 20)))⟩,
     ⟨(some 41), none, .pick (.t 37) (.c (.g (.bool true))) (.t 40)⟩,
     ⟨(some 42), none, .mov (.t 41)⟩,
     ⟨(some 43), (some (42, false)), .mov (.t 1)⟩,
     ⟨(some 44), (some (42, false)), .call (.c (.g (.fn 44))) [(.t 43)]⟩,
     ⟨(some 45), (some (42, false)), .un .not (.t 44)⟩,
     ⟨(some 46), none, .pick (.t 42) (.c (.g (.bool true))) (.t 45)⟩,
     ⟨(some 47), none, .mov (.t 46)⟩,
     ⟨(some 48), (some (47, false)), .mov (.t 2)⟩,
     ⟨(some 49), (some (47, false)), .call (.c (.g (.fn 44))) [(.t 48)]⟩,
     ⟨(some 50), (some (47, false)), .un .not (.t 49)⟩,
     ⟨(some 51), none, .pick (.t 47) (.c (.g (.bool true))) (.t 50)⟩]) <|
  .cond [1, 2, 3] (.t 51)
   (.seq (.reg [6] [⟨(some 52), none, .call (.c (.g (.fn 37))) []⟩,
       ⟨(some 6), none, .mov (.t 52)⟩]) <|
    .ret)
   (.skip)) <|
 .seq (.seq (.reg [1, 2, 3, 7] [⟨(some 7), none, .mov (.c (.g (.int .i64 0)))⟩]) <|
  .block [1, 2, 3] 0 <|
  .loop [1, 2, 3, 7] [] L11_1) <|
 .seq (.reg [1, 2, 3, 9, 11] [⟨(some 78), none, .load true 4 (.t 3)⟩,
    ⟨(some 79), none, .mov (.t 1)⟩,
    ⟨(some 80), none, .call (.c (.g (.fn 45))) [(.t 78), (.t 79)]⟩,
    ⟨(some 77), none, .mov (.t 80)⟩,
    ⟨(some 81), none, .ext 0 (.t 77)⟩,
    ⟨(some 82), none, .ext 1 (.t 77)⟩,
    ⟨(some 83), none, .ext 2 (.t 77)⟩,
    ⟨(some 9), none, .alloc [.z (.int .i64 0), .z (.int .i64 0), .s 6, .s 8]⟩,
    ⟨none, none, .store 4 (.t 9) (.t 81)⟩,
    ⟨(some 10), none, .mov (.t 82)⟩,
    ⟨(some 11), none, .mov (.t 83)⟩]) <|
 .seq (.reg [1, 2, 3, 11, 12, 14] [⟨(some 85), none, .load true 4 (.t 9)⟩,
    ⟨(some 86), none, .mov (.t 2)⟩,
    ⟨(some 87), none, .call (.c (.g (.fn 45))) [(.t 85), (.t 86)]⟩,
    ⟨(some 84), none, .mov (.t 87)⟩,
    ⟨(some 88), none, .ext 0 (.t 84)⟩,
    ⟨(some 89), none, .ext 1 (.t 84)⟩,
    ⟨(some 90), none, .ext 2 (.t 84)⟩,
    ⟨(some 12), none, .alloc [.z (.int .i64 0), .z (.int .i64 0), .s 6, .s 8]⟩,
    ⟨none, none, .store 4 (.t 12) (.t 88)⟩,
    ⟨(some 13), none, .mov (.t 89)⟩,
    ⟨(some 14), none, .mov (.t 90)⟩]) <|
 .seq (.reg [1, 11, 12, 14, 15, 17] [⟨(some 92), none, .load true 4 (.t 3)⟩,
    ⟨(some 93), none, .mov (.t 2)⟩,
    ⟨(some 94), none, .call (.c (.g (.fn 45))) [(.t 92), (.t 93)]⟩,
    ⟨(some 91), none, .mov (.t 94)⟩,
    ⟨(some 95), none, .ext 0 (.t 91)⟩,
    ⟨(some 96), none, .ext 1 (.t 91)⟩,
    ⟨(some 97), none, .ext 2 (.t 91)⟩,
    ⟨(some 15), none, .alloc [.z (.int .i64 0), .z (.int .i64 0), .s 6, .s 8]⟩,
    ⟨none, none, .store 4 (.t 15) (.t 95)⟩,
    ⟨(some 16), none, .mov (.t 96)⟩,
    ⟨(some 17), none, .mov (.t 97)⟩]) <|
 .seq (.reg [11, 12, 14, 17, 18, 20] [⟨(some 99), none, .load true 4 (.t 15)⟩,
    ⟨(some 100), none, .mov (.t 1)⟩,
    ⟨(some 101), none, .call (.c (.g (.fn 45))) [(.t 99), (.t 100)]⟩,
    ⟨(some 98), none, .mov (.t 101)⟩,
    ⟨(some 102), none, .ext 0 (.t 98)⟩,
    ⟨(some 103), none, .ext 1 (.t 98)⟩,
    ⟨(some 104), none, .ext 2 (.t 98)⟩,
    ⟨(some 18), none, .alloc [.z (.int .i64 0), .z (.int .i64 0), .s 6, .s 8]⟩,
    ⟨none, none, .store 4 (.t 18) (.t 102)⟩,
    ⟨(some 19), none, .mov (.t 103)⟩,
    ⟨(some 20), none, .mov (.t 104)⟩]) <|
 .seq (.seq (.reg [12, 18, 118] [⟨(some 105), none, .mov (.t 11)⟩,
     ⟨(some 106), none, .bin .neq (.t 105) (.c (.g (.int .i64 0)))⟩,
     ⟨(some 107), none, .mov (.t 106)⟩,
     ⟨(some 108), (some (107, false)), .mov (.t 14)⟩,
     ⟨(some 109), (some (107, false)), .bin .neq (.t 108) (.c (.g (.int .i64 0)))⟩,
     ⟨(some 110), none, .pick (.t 107) (.c (.g (.bool true))) (.t 109)⟩,
     ⟨(some 111), none, .mov (.t 110)⟩,
     ⟨(some 112), (some (111, false)), .mov (.t 17)⟩,
     ⟨(some 113), (some (111, false)), .bin .neq (.t 112) (.c (.g (.int .i64 0)))⟩,
     ⟨(some 114), none, .pick (.t 111) (.c (.g (.bool true))) (.t 113)⟩,
     ⟨(some 115), none, .mov (.t 114)⟩,
     ⟨(some 116), (some (115, false)), .mov (.t 20)⟩,
     ⟨(some 117), (some (115, false)), .bin .neq (.t 116) (.c (.g (.int .i64 0)))⟩,
     ⟨(some 118), none, .pick (.t 115) (.c (.g (.bool true))) (.t 117)⟩]) <|
  .cond [12, 18] (.t 118)
   (.seq (.reg [6] [⟨(some 119), none, .call (.c (.g (.fn 37))) []⟩,
       ⟨(some 6), none, .mov (.t 119)⟩]) <|
    .ret)
   (.skip)) <|
 .seq (.reg [12, 18, 21] [⟨(some 120), none, .load true 4 (.t 12)⟩,
    ⟨(some 121), none, .call (.c (.g (.fn 42))) [(.t 120)]⟩,
    ⟨(some 21), none, .mov (.t 121)⟩]) <|
 .seq (.reg [12, 18, 21, 22] [⟨(some 122), none, .load true 4 (.t 18)⟩,
    ⟨(some 123), none, .call (.c (.g (.fn 42))) [(.t 122)]⟩,
    ⟨(some 22), none, .mov (.t 123)⟩]) <|
 .seq (.seq (.reg [21, 22, 144] [⟨(some 124), none, .mov (.t 21)⟩,
     ⟨(some 125), none, .len (.t 124)⟩,
     ⟨(some 126), none, .mov (.t 22)⟩,
     ⟨(some 127), none, .len (.t 126)⟩,
     ⟨(some 128), none, .bin .neq (.t 125) (.t 127)⟩,
     ⟨(some 129), none, .mov (.t 128)⟩,
     ⟨(some 130), (some (129, false)), .faddr 0 (.t 12)⟩,
     ⟨(some 131), (some (129, false)), .load false 1 (.t 130)⟩,
     ⟨(some 132), (some (129, false)), .faddr 0 (.t 18)⟩,
     ⟨(some 133), (some (129, false)), .load false 1 (.t 132)⟩,
     ⟨(some 134), (some (129, false)), .bin .neq (.t 131) (.t 133)⟩,
     ⟨(some 135), none, .pick (.t 129) (.c (.g (.bool true))) (.t 134)⟩,
     ⟨(some 136), none, .mov (.t 135)⟩,
     ⟨(some 137), (some (136, false)), .faddr 3 (.t 12)⟩,
     ⟨(some 138), (some (136, false)), .load false 1 (.t 137)⟩,
     ⟨(some 139), (some (136, false)), .len (.t 138)⟩,
     ⟨(some 140), (some (136, false)), .faddr 3 (.t 18)⟩,
     ⟨(some 141), (some (136, false)), .load false 1 (.t 140)⟩,
     ⟨(some 142), (some (136, false)), .len (.t 141)⟩,
     ⟨(some 143), (some (136, false)), .bin .neq (.t 139) (.t 142)⟩,
     ⟨(some 144), none, .pick (.t 136) (.c (.g (.bool true))) (.t 143)⟩]) <|
  .cond [21, 22] (.t 144)
   (.seq (.reg [6] [⟨(some 6), none, .mov (.c (.g (.bool false)))⟩]) <|
    .ret)
   (.skip)) <|
 .seq (.seq (.reg [21, 22, 23] [⟨(some 23), none, .mov (.c (.g (.int .i64 0)))⟩]) <|
  .block [] 4 <|
  .loop [21, 22, 23] [] L11_2) <|
 .seq (.reg [6] [⟨(some 201), none, .call (.c (.g (.fn 37))) []⟩,
    ⟨(some 6), none, .mov (.t 201)⟩]) <|
 .ret⟩
def h11 : List (List Nat) := [[1, 2, 3], [1, 2, 3, 51], [1, 2, 3], [6], [1, 2, 3, 7], [1, 2, 3], [1, 2, 3, 7], [1, 2, 3, 7, 56], [1, 2, 3, 7], [1, 2, 3, 7], [1, 2, 3, 7, 8], [1, 2, 3, 7], [1, 2, 3, 7, 8], [1, 2, 3, 7, 8, 62], [1, 2, 3, 7, 8], [1, 2, 3, 7, 8], [1, 2, 3, 7, 8, 75], [], [1, 2, 3, 7, 8], [6], [1, 2, 3, 7, 8], [1, 2, 3, 7], [1, 2, 3, 9, 11], [1, 2, 3, 11, 12, 14], [1, 11, 12, 14, 15, 17], [11, 12, 14, 17, 18, 20], [12, 18, 118], [12, 18], [6], [12, 18, 21], [12, 18, 21, 22], [21, 22, 144], [21, 22], [6], [21, 22, 23], [], [21, 22, 23], [21, 22, 23, 148], [21, 22, 23], [21, 22, 23], [21, 22, 23, 200], [], [21, 22, 23], [6], [21, 22, 23], [6]]
theorem c11 : cFunc Try.prog 11 false h11 = some F11 := by kernel_rfl

/-- baton/batonlaw06.TxnOne -/
def F12 : IFunc := ⟨2, 93, [.tmp 4], false,
 .seq (.reg [2, 3] [⟨(some 2), none, .box (.t 0)⟩,
    ⟨(some 3), none, .box (.t 1)⟩,
    ⟨(some 4), none, .mov (.c (.g (.bool false)))⟩]) <|
 .seq (.seq (.reg [2, 3, 26] [⟨(some 13), none, .load true 4 (.t 2)⟩,
     ⟨(some 14), none, .call (.c (.g (.fn 21))) [(.t 13)]⟩,
     ⟨(some 15), none, .un .not (.t 14)⟩,
     ⟨(some 16), none, .mov (.t 15)⟩,
     ⟨(some 17), (some (16, false)), .load true 4 (.t 2)⟩,
     ⟨(some 18), (some (16, false)), .call (.c (.g (.fn 40))) [(.t 17)]⟩,
     ⟨(some 19), (some (16, false)), .un .not (.t 18)⟩,
     ⟨(some 20), none, .pick (.t 16) (.c (.g (.bool true))) (.t 19)⟩,
     ⟨(some 21), none, .mov (.t 20)⟩,
     ⟨(some 22), (some (21, false)), .load true 3 (.t 3)⟩,
     ⟨(some 23), (some (21, false)), .build [.g (.int .i64 0), .g (.int .i64 0), .g (.int .i64 0), .g (.bool false), .g (.str []), .g (.str []), .g (.int .i64 0), .g (.int .i64 0), .g (.int .i64 0), .g (.int .i64 0), .g (.nsl), .g (.nsl), .g (.nsl)] [(10, 3, (.t 22))]⟩,
     ⟨(some 24), (some (21, false)), .call (.c (.g (.fn 23))) [(.t 23)]⟩,
     ⟨(some 25), (some (21, false)), .un .not (.t 24)⟩,
     ⟨(some 26), none, .pick (.t 21) (.c (.g (.bool true))) (.t 25)⟩]) <|
  .cond [2, 3] (.t 26)
   (.seq (.reg [4] [⟨(some 27), none, .call (.c (.g (.fn 16))) []⟩,
       ⟨(some 4), none, .mov (.t 27)⟩]) <|
    .ret)
   (.skip)) <|
 .seq (.reg [2, 3, 5, 6, 7, 8] [⟨(some 29), none, .load true 4 (.t 2)⟩,
    ⟨(some 30), none, .load true 3 (.t 3)⟩,
    ⟨(some 31), none, .call (.c (.g (.fn 24))) [(.t 29), (.t 30)]⟩,
    ⟨(some 28), none, .mov (.t 31)⟩,
    ⟨(some 32), none, .ext 0 (.t 28)⟩,
    ⟨(some 33), none, .ext 1 (.t 28)⟩,
    ⟨(some 34), none, .ext 2 (.t 28)⟩,
    ⟨(some 35), none, .ext 3 (.t 28)⟩,
    ⟨(some 5), none, .alloc [.z (.int .i64 0), .z (.int .i64 0), .s 6, .s 8]⟩,
    ⟨none, none, .store 4 (.t 5) (.t 32)⟩,
    ⟨(some 6), none, .mov (.t 33)⟩,
    ⟨(some 7), none, .mov (.t 34)⟩,
    ⟨(some 8), none, .mov (.t 35)⟩]) <|
 .seq (.seq (.reg [2, 3, 5, 6, 7, 37] [⟨(some 36), none, .mov (.t 8)⟩,
     ⟨(some 37), none, .bin .neq (.t 36) (.c (.g (.int .i64 0)))⟩]) <|
  .cond [2, 3, 5, 6, 7] (.t 37)
   (.seq (.reg [4] [⟨(some 38), none, .load true 4 (.t 2)⟩,
       ⟨(some 39), none, .load true 4 (.t 5)⟩,
       ⟨(some 40), none, .call (.c (.g (.fn 26))) [(.t 38), (.t 39)]⟩,
       ⟨(some 41), none, .mov (.t 40)⟩,
       ⟨(some 42), (some (41, true)), .mov (.t 6)⟩,
       ⟨(some 43), (some (41, true)), .un .not (.t 42)⟩,
       ⟨(some 44), none, .pick (.t 41) (.t 43) (.c (.g (.bool false)))⟩,
       ⟨(some 45), none, .mov (.t 44)⟩,
       ⟨(some 46), (some (45, true)), .mov (.t 7)⟩,
       ⟨(some 47), (some (45, true)), .len (.t 46)⟩,
       ⟨(some 48), (some (45, true)), .bin .eql (.t 47) (.c (.g (.int .i64 0)))⟩,
       ⟨(some 49), none, .pick (.t 45) (.t 48) (.c (.g (.bool false)))⟩,
       ⟨(some 50), none, .mov (.t 49)⟩,
       ⟨(some 51), (some (50, true)), .call (.c (.g (.fn 16))) []⟩,
       ⟨(some 52), none, .pick (.t 50) (.t 51) (.c (.g (.bool false)))⟩,
       ⟨(some 4), none, .mov (.t 52)⟩]) <|
    .ret)
   (.skip)) <|
 .seq (.reg [2, 3, 5, 6, 7, 9] [⟨(some 53), none, .faddr 2 (.t 3)⟩,
    ⟨(some 54), none, .load false 1 (.t 53)⟩,
    ⟨(some 9), none, .mov (.t 54)⟩]) <|
 .seq (.seq (.reg [2, 3, 5, 6, 7, 9, 55] [⟨(some 55), none, .mov (.t 6)⟩]) <|
  .cond [2, 3, 5, 6, 7, 9] (.t 55)
   (.reg [2, 3, 5, 6, 7, 9] [⟨(some 56), none, .faddr 1 (.t 3)⟩,
      ⟨(some 57), none, .load false 1 (.t 56)⟩,
      ⟨(some 9), none, .mov (.t 57)⟩])
   (.skip)) <|
 .seq (.reg [2, 3, 5, 6, 7, 10, 11, 12] [⟨(some 59), none, .load true 4 (.t 2)⟩,
    ⟨(some 60), none, .mov (.t 9)⟩,
    ⟨(some 61), none, .call (.c (.g (.fn 45))) [(.t 59), (.t 60)]⟩,
    ⟨(some 58), none, .mov (.t 61)⟩,
    ⟨(some 62), none, .ext 0 (.t 58)⟩,
    ⟨(some 63), none, .ext 1 (.t 58)⟩,
    ⟨(some 64), none, .ext 2 (.t 58)⟩,
    ⟨(some 10), none, .alloc [.z (.int .i64 0), .z (.int .i64 0), .s 6, .s 8]⟩,
    ⟨none, none, .store 4 (.t 10) (.t 62)⟩,
    ⟨(some 11), none, .mov (.t 63)⟩,
    ⟨(some 12), none, .mov (.t 64)⟩]) <|
 .seq (.drw [4] 0 <|
  .take ⟨(some 65), none, .mov (.t 12)⟩ <|
  .take ⟨(some 66), none, .bin .eql (.t 65) (.c (.g (.int .i64 0)))⟩ <|
  .take ⟨(some 67), none, .mov (.t 66)⟩ <|
  .take ⟨(some 68), (some (67, true)), .load true 4 (.t 5)⟩ <|
  .take ⟨(some 69), (some (67, true)), .load true 4 (.t 10)⟩ <|
  .one ⟨(some 70), (some (67, true)), .call (.c (.g (.fn 26))) [(.t 68), (.t 69)]⟩ <|
  .take ⟨(some 71), none, .pick (.t 67) (.t 70) (.c (.g (.bool false)))⟩ <|
  .take ⟨(some 72), none, .mov (.t 71)⟩ <|
  .take ⟨(some 73), (some (72, true)), .mov (.t 7)⟩ <|
  .take ⟨(some 74), (some (72, true)), .mov (.t 11)⟩ <|
  .one ⟨(some 75), (some (72, true)), .call (.c (.g (.fn 27))) [(.t 73), (.t 74)]⟩ <|
  .take ⟨(some 76), none, .pick (.t 72) (.t 75) (.c (.g (.bool false)))⟩ <|
  .take ⟨(some 77), none, .mov (.t 76)⟩ <|
  .take ⟨(some 78), (some (77, true)), .mov (.t 6)⟩ <|
  .take ⟨(some 81), (some (77, true)), .faddr 0 (.t 3)⟩ <|
  .alt ⟨(some 79), (some (77, true)), .load true 4 (.t 2)⟩
  (.alt ⟨(some 80), (some (77, true)), .call (.c (.g (.fn 42))) [(.t 79)]⟩
   (.one ⟨(some 82), (some (77, true)), .load false 1 (.t 81)⟩ <|
    .one ⟨(some 83), (some (77, true)), .call (.c (.g (.fn 19))) [(.t 80), (.t 82)]⟩ <|
    .take ⟨(some 84), (some (77, true)), .eqs false false [.b] (.t 78) (.t 83)⟩ <|
    .take ⟨(some 85), none, .pick (.t 77) (.t 84) (.c (.g (.bool false)))⟩ <|
    .take ⟨(some 86), none, .mov (.t 85)⟩ <|
    .one ⟨(some 87), (some (86, true)), .load true 4 (.t 5)⟩ <|
    .one ⟨(some 88), (some (86, true)), .call (.c (.g (.fn 40))) [(.t 87)]⟩ <|
    .take ⟨(some 89), none, .pick (.t 86) (.t 88) (.c (.g (.bool false)))⟩ <|
    .take ⟨(some 90), none, .mov (.t 89)⟩ <|
    .one ⟨(some 91), (some (90, true)), .call (.c (.g (.fn 16))) []⟩ <|
    .take ⟨(some 92), none, .pick (.t 90) (.t 91) (.c (.g (.bool false)))⟩ <|
    .free <|
    .take ⟨(some 4), none, .mov (.t 92)⟩ <|
    .leaf)
   (.one ⟨(some 82), (some (77, true)), .load false 1 (.t 81)⟩ <|
    .one ⟨(some 80), (some (77, true)), .call (.c (.g (.fn 42))) [(.t 79)]⟩ <|
    .one ⟨(some 83), (some (77, true)), .call (.c (.g (.fn 19))) [(.t 80), (.t 82)]⟩ <|
    .take ⟨(some 84), (some (77, true)), .eqs false false [.b] (.t 78) (.t 83)⟩ <|
    .take ⟨(some 85), none, .pick (.t 77) (.t 84) (.c (.g (.bool false)))⟩ <|
    .take ⟨(some 86), none, .mov (.t 85)⟩ <|
    .one ⟨(some 87), (some (86, true)), .load true 4 (.t 5)⟩ <|
    .one ⟨(some 88), (some (86, true)), .call (.c (.g (.fn 40))) [(.t 87)]⟩ <|
    .take ⟨(some 89), none, .pick (.t 86) (.t 88) (.c (.g (.bool false)))⟩ <|
    .take ⟨(some 90), none, .mov (.t 89)⟩ <|
    .one ⟨(some 91), (some (90, true)), .call (.c (.g (.fn 16))) []⟩ <|
    .take ⟨(some 92), none, .pick (.t 90) (.t 91) (.c (.g (.bool false)))⟩ <|
    .free <|
    .take ⟨(some 4), none, .mov (.t 92)⟩ <|
    .leaf))
  (.one ⟨(some 82), (some (77, true)), .load false 1 (.t 81)⟩ <|
   .one ⟨(some 79), (some (77, true)), .load true 4 (.t 2)⟩ <|
   .one ⟨(some 80), (some (77, true)), .call (.c (.g (.fn 42))) [(.t 79)]⟩ <|
   .one ⟨(some 83), (some (77, true)), .call (.c (.g (.fn 19))) [(.t 80), (.t 82)]⟩ <|
   .take ⟨(some 84), (some (77, true)), .eqs false false [.b] (.t 78) (.t 83)⟩ <|
   .take ⟨(some 85), none, .pick (.t 77) (.t 84) (.c (.g (.bool false)))⟩ <|
   .take ⟨(some 86), none, .mov (.t 85)⟩ <|
   .one ⟨(some 87), (some (86, true)), .load true 4 (.t 5)⟩ <|
   .one ⟨(some 88), (some (86, true)), .call (.c (.g (.fn 40))) [(.t 87)]⟩ <|
   .take ⟨(some 89), none, .pick (.t 86) (.t 88) (.c (.g (.bool false)))⟩ <|
   .take ⟨(some 90), none, .mov (.t 89)⟩ <|
   .one ⟨(some 91), (some (90, true)), .call (.c (.g (.fn 16))) []⟩ <|
   .take ⟨(some 92), none, .pick (.t 90) (.t 91) (.c (.g (.bool false)))⟩ <|
   .free <|
   .take ⟨(some 4), none, .mov (.t 92)⟩ <|
   .leaf)) <|
 .ret⟩
def h12 : List (List Nat) := [[2, 3], [2, 3, 26], [2, 3], [4], [2, 3, 5, 6, 7, 8], [2, 3, 5, 6, 7, 37], [2, 3, 5, 6, 7], [4], [2, 3, 5, 6, 7, 9], [2, 3, 5, 6, 7, 9, 55], [2, 3, 5, 6, 7, 9], [2, 3, 5, 6, 7, 9], [2, 3, 5, 6, 7, 10, 11, 12], [4], []]
theorem c12 : cFunc Try.prog 12 false h12 = some F12 := by kernel_rfl

/-- baton/batonlaw06.TxnPuts -/
def F13 : IFunc := ⟨3, 175, [.tmp 6], false,
 .seq (.reg [1, 3, 5] [⟨(some 3), none, .box (.t 0)⟩,
    ⟨(some 5), none, .box (.t 2)⟩,
    ⟨(some 6), none, .mov (.c (.g (.bool false)))⟩]) <|
 .seq (.seq (.reg [1, 3, 5, 51] [⟨(some 27), none, .load true 4 (.t 3)⟩,
     ⟨(some 28), none, .call (.c (.g (.fn 21))) [(.t 27)]⟩,
     ⟨(some 29), none, .un .not (.t 28)⟩,
     ⟨(some 30), none, .mov (.t 29)⟩,
     ⟨(some 31), (some (30, false)), .load true 4 (.t 3)⟩,
     ⟨(some 32), (some (30, false)), .call (.c (.g (.fn 40))) [(.t 31)]⟩,
     ⟨(some 33), (some (30, false)), .un .not (.t 32)⟩,
     ⟨(some 34), none, .pick (.t 30) (.c (.g (.bool true))) (.t 33)⟩,
     ⟨(some 35), none, .mov (.t 34)⟩,
     ⟨(some 36), (some (35, false)), .mov (.t 1)⟩,
     ⟨(some 37), (some (35, false)), .lenS (.t 36)⟩,
     ⟨(some 38), (some (35, false)), .bin .gtr (.t 37) (.c (.g (.int .i64 60)))⟩,
     ⟨(some 39), none, .pick (.t 35) (.c (.g (.bool true))) (.t 38)⟩,
     ⟨(some 40), none, .mov (.t 39)⟩,
     ⟨(some 41), (some (40, false)), .iaddrA 2 1 (.t 5) (.c (.g (.int .i64 0)))⟩,
     ⟨(some 42), (some (40, false)), .load false 1 (.t 41)⟩,
     ⟨(some 43), (some (40, false)), .lenS (.t 42)⟩,
     ⟨(some 44), (some (40, false)), .bin .gtr (.t 43) (.c (.g (.int .i64 60)))⟩,
     ⟨(some 45), none, .pick (.t 40) (.c (.g (.bool true))) (.t 44)⟩,
     ⟨(some 46), none, .mov (.t 45)⟩,
     ⟨(some 47), (some (46, false)), .iaddrA 2 1 (.t 5) (.c (.g (.int .i64 1)))⟩,
     ⟨(some 48), (some (46, false)), .load false 1 (.t 47)⟩,
     ⟨(some 49), (some (46, false)), .lenS (.t 48)⟩,
     ⟨(some 50), (some (46, false)), .bin .gtr (.t 49) (.c (.g (.int .i64 60)))⟩,
     ⟨(some 51), none, .pick (.t 46) (.c (.g (.bool true))) (.t 50)⟩]) <|
  .cond [1, 3, 5] (.t 51)
   (.seq (.reg [6] [⟨(some 52), none, .call (.c (.g (.fn 16))) []⟩,
       ⟨(some 6), none, .mov (.t 52)⟩]) <|
    .ret)
   (.skip)) <|
 .seq (.drw [1, 3, 5, 7, 8, 10] 1 <|
  .take ⟨(some 54), none, .load true 4 (.t 3)⟩ <|
  .take ⟨(some 55), none, .mov (.t 1)⟩ <|
  .take ⟨(some 56), none, .iaddrA 2 1 (.t 5) (.c (.g (.int .i64 0)))⟩ <|
  .take ⟨(some 57), none, .load false 1 (.t 56)⟩ <|
  .alt ⟨(some 58), none, .call (.c (.g (.fn 28))) [(.t 55), (.t 57), (.c (.g (.int .i64 1)))]⟩
  (.alt ⟨(some 59), none, .call (.c (.g (.fn 24))) [(.t 54), (.t 58)]⟩
   (.take ⟨(some 53), none, .mov (.t 59)⟩ <|
    .take ⟨(some 60), none, .ext 0 (.t 53)⟩ <|
    .take ⟨(some 61), none, .ext 1 (.t 53)⟩ <|
    .take ⟨(some 62), none, .ext 2 (.t 53)⟩ <|
    .take ⟨(some 63), none, .ext 3 (.t 53)⟩ <|
    .one ⟨(some 7), none, .allocAt 0 [.z (.int .i64 0), .z (.int .i64 0), .s 6, .s 8]⟩ <|
    .free <|
    .one ⟨none, none, .store 4 (.t 7) (.t 60)⟩ <|
    .take ⟨(some 8), none, .mov (.t 61)⟩ <|
    .take ⟨(some 9), none, .mov (.t 62)⟩ <|
    .take ⟨(some 10), none, .mov (.t 63)⟩ <|
    .leaf)
   (.one ⟨(some 7), none, .allocAt 0 [.z (.int .i64 0), .z (.int .i64 0), .s 6, .s 8]⟩ <|
    .one ⟨(some 59), none, .call (.c (.g (.fn 24))) [(.t 54), (.t 58)]⟩ <|
    .take ⟨(some 53), none, .mov (.t 59)⟩ <|
    .take ⟨(some 60), none, .ext 0 (.t 53)⟩ <|
    .take ⟨(some 61), none, .ext 1 (.t 53)⟩ <|
    .take ⟨(some 62), none, .ext 2 (.t 53)⟩ <|
    .take ⟨(some 63), none, .ext 3 (.t 53)⟩ <|
    .free <|
    .one ⟨none, none, .store 4 (.t 7) (.t 60)⟩ <|
    .take ⟨(some 8), none, .mov (.t 61)⟩ <|
    .take ⟨(some 9), none, .mov (.t 62)⟩ <|
    .take ⟨(some 10), none, .mov (.t 63)⟩ <|
    .leaf))
  (.one ⟨(some 7), none, .allocAt 0 [.z (.int .i64 0), .z (.int .i64 0), .s 6, .s 8]⟩ <|
   .one ⟨(some 58), none, .call (.c (.g (.fn 28))) [(.t 55), (.t 57), (.c (.g (.int .i64 1)))]⟩ <|
   .one ⟨(some 59), none, .call (.c (.g (.fn 24))) [(.t 54), (.t 58)]⟩ <|
   .take ⟨(some 53), none, .mov (.t 59)⟩ <|
   .take ⟨(some 60), none, .ext 0 (.t 53)⟩ <|
   .take ⟨(some 61), none, .ext 1 (.t 53)⟩ <|
   .take ⟨(some 62), none, .ext 2 (.t 53)⟩ <|
   .take ⟨(some 63), none, .ext 3 (.t 53)⟩ <|
   .free <|
   .one ⟨none, none, .store 4 (.t 7) (.t 60)⟩ <|
   .take ⟨(some 8), none, .mov (.t 61)⟩ <|
   .take ⟨(some 9), none, .mov (.t 62)⟩ <|
   .take ⟨(some 10), none, .mov (.t 63)⟩ <|
   .leaf)) <|
 .seq (.seq (.reg [1, 3, 5, 7, 8, 65] [⟨(some 64), none, .mov (.t 10)⟩,
     ⟨(some 65), none, .bin .neq (.t 64) (.c (.g (.int .i64 0)))⟩]) <|
  .cond [1, 3, 5, 7, 8] (.t 65)
   (.seq (.reg [6] [⟨(some 66), none, .mov (.t 8)⟩,
       ⟨(some 67), none, .un .not (.t 66)⟩,
       ⟨(some 68), none, .mov (.t 67)⟩,
       ⟨(some 69), (some (68, true)), .load true 4 (.t 3)⟩,
       ⟨(some 70), (some (68, true)), .load true 4 (.t 7)⟩,
       ⟨(some 71), (some (68, true)), .call (.c (.g (.fn 26))) [(.t 69), (.t 70)]⟩,
       ⟨(some 72), none, .pick (.t 68) (.t 71) (.c (.g (.bool false)))⟩,
       ⟨(some 73), none, .mov (.t 72)⟩,
       ⟨(some 74), (some (73, true)), .call (.c (.g (.fn 16))) []⟩,
       ⟨(some 75), none, .pick (.t 73) (.t 74) (.c (.g (.bool false)))⟩,
       ⟨(some 6), none, .mov (.t 75)⟩]) <|
    .ret)
   (.skip)) <|
 .seq (.reg [1, 3, 5, 7, 8, 12] [⟨(some 77), none, .load true 4 (.t 3)⟩,
    ⟨(some 78), none, .call (.c (.g (.fn 42))) [(.t 77)]⟩,
    ⟨(some 79), none, .mov (.t 1)⟩,
    ⟨(some 80), none, .call (.c (.g (.fn 49))) [(.t 78), (.t 79)]⟩,
    ⟨(some 76), none, .mov (.t 80)⟩,
    ⟨(some 81), none, .ext 0 (.t 76)⟩,
    ⟨(some 82), none, .ext 1 (.t 76)⟩,
    ⟨(some 11), none, .alloc [.z (.str []), .z (.str []), .z (.int .i64 0), .z (.int .i64 0), .z (.int .i64 0), .z (.int .i64 0)]⟩,
    ⟨none, none, .store 6 (.t 11) (.t 81)⟩,
    ⟨(some 12), none, .mov (.t 82)⟩]) <|
 .seq (.drw [1, 3, 7, 8, 12, 13, 14, 16] 1 <|
  .take ⟨(some 84), none, .load true 4 (.t 7)⟩ <|
  .take ⟨(some 85), none, .mov (.t 1)⟩ <|
  .take ⟨(some 86), none, .iaddrA 2 1 (.t 5) (.c (.g (.int .i64 1)))⟩ <|
  .take ⟨(some 87), none, .load false 1 (.t 86)⟩ <|
  .alt ⟨(some 88), none, .call (.c (.g (.fn 28))) [(.t 85), (.t 87), (.c (.g (.int .i64 2)))]⟩
  (.alt ⟨(some 89), none, .call (.c (.g (.fn 24))) [(.t 84), (.t 88)]⟩
   (.take ⟨(some 83), none, .mov (.t 89)⟩ <|
    .take ⟨(some 90), none, .ext 0 (.t 83)⟩ <|
    .take ⟨(some 91), none, .ext 1 (.t 83)⟩ <|
    .take ⟨(some 92), none, .ext 2 (.t 83)⟩ <|
    .take ⟨(some 93), none, .ext 3 (.t 83)⟩ <|
    .one ⟨(some 13), none, .allocAt 0 [.z (.int .i64 0), .z (.int .i64 0), .s 6, .s 8]⟩ <|
    .free <|
    .one ⟨none, none, .store 4 (.t 13) (.t 90)⟩ <|
    .take ⟨(some 14), none, .mov (.t 91)⟩ <|
    .take ⟨(some 15), none, .mov (.t 92)⟩ <|
    .take ⟨(some 16), none, .mov (.t 93)⟩ <|
    .leaf)
   (.one ⟨(some 13), none, .allocAt 0 [.z (.int .i64 0), .z (.int .i64 0), .s 6, .s 8]⟩ <|
    .one ⟨(some 89), none, .call (.c (.g (.fn 24))) [(.t 84), (.t 88)]⟩ <|
    .take ⟨(some 83), none, .mov (.t 89)⟩ <|
    .take ⟨(some 90), none, .ext 0 (.t 83)⟩ <|
    .take ⟨(some 91), none, .ext 1 (.t 83)⟩ <|
    .take ⟨(some 92), none, .ext 2 (.t 83)⟩ <|
    .take ⟨(some 93), none, .ext 3 (.t 83)⟩ <|
    .free <|
    .one ⟨none, none, .store 4 (.t 13) (.t 90)⟩ <|
    .take ⟨(some 14), none, .mov (.t 91)⟩ <|
    .take ⟨(some 15), none, .mov (.t 92)⟩ <|
    .take ⟨(some 16), none, .mov (.t 93)⟩ <|
    .leaf))
  (.one ⟨(some 13), none, .allocAt 0 [.z (.int .i64 0), .z (.int .i64 0), .s 6, .s 8]⟩ <|
   .one ⟨(some 88), none, .call (.c (.g (.fn 28))) [(.t 85), (.t 87), (.c (.g (.int .i64 2)))]⟩ <|
   .one ⟨(some 89), none, .call (.c (.g (.fn 24))) [(.t 84), (.t 88)]⟩ <|
   .take ⟨(some 83), none, .mov (.t 89)⟩ <|
   .take ⟨(some 90), none, .ext 0 (.t 83)⟩ <|
   .take ⟨(some 91), none, .ext 1 (.t 83)⟩ <|
   .take ⟨(some 92), none, .ext 2 (.t 83)⟩ <|
   .take ⟨(some 93), none, .ext 3 (.t 83)⟩ <|
   .free <|
   .one ⟨none, none, .store 4 (.t 13) (.t 90)⟩ <|
   .take ⟨(some 14), none, .mov (.t 91)⟩ <|
   .take ⟨(some 15), none, .mov (.t 92)⟩ <|
   .take ⟨(some 16), none, .mov (.t 93)⟩ <|
   .leaf)) <|
 .seq (.seq (.reg [1, 3, 7, 8, 13, 109] [⟨(some 94), none, .mov (.t 8)⟩,
     ⟨(some 95), none, .mov (.t 12)⟩,
     ⟨(some 96), none, .eqs false false [.b] (.t 94) (.t 95)⟩,
     ⟨(some 97), none, .mov (.t 96)⟩,
     ⟨(some 98), (some (97, false)), .mov (.t 16)⟩,
     ⟨(some 99), (some (97, false)), .bin .neq (.t 98) (.c (.g (.int .i64 0)))⟩,
     ⟨(some 100), none, .pick (.t 97) (.c (.g (.bool true))) (.t 99)⟩,
     ⟨(some 101), none, .mov (.t 100)⟩,
     ⟨(some 102), (some (101, false)), .mov (.t 14)⟩,
     ⟨(some 103), none, .pick (.t 101) (.c (.g (.bool true))) (.t 102)⟩,
     ⟨(some 104), none, .mov (.t 103)⟩,
     ⟨(some 105), (some (104, false)), .load true 4 (.t 7)⟩,
     ⟨(some 106), (some (104, false)), .load true 4 (.t 13)⟩,
     ⟨(some 107), (some (104, false)), .call (.c (.g (.fn 26))) [(.t 105), (.t 106)]⟩,
     ⟨(some 108), (some (104, false)), .un .not (.t 107)⟩,
     ⟨(some 109), none, .pick (.t 104) (.c (.g (.bool true))) (.t 108)⟩]) <|
  .cond [1, 3, 7, 8, 13] (.t 109)
   (.seq (.reg [6] [⟨(some 6), none, .mov (.c (.g (.bool false)))⟩]) <|
    .ret)
   (.skip)) <|
 .seq (.seq (.reg [1, 3, 7, 13, 111] [⟨(some 110), none, .mov (.t 8)⟩,
     ⟨(some 111), none, .un .not (.t 110)⟩]) <|
  .cond [1, 13] (.t 111)
   (.seq (.reg [6] [⟨(some 112), none, .load true 4 (.t 3)⟩,
       ⟨(some 113), none, .load true 4 (.t 7)⟩,
       ⟨(some 114), none, .call (.c (.g (.fn 26))) [(.t 112), (.t 113)]⟩,
       ⟨(some 115), none, .mov (.t 114)⟩,
       ⟨(some 116), (some (115, true)), .call (.c (.g (.fn 16))) []⟩,
       ⟨(some 117), none, .pick (.t 115) (.t 116) (.c (.g (.bool false)))⟩,
       ⟨(some 6), none, .mov (.t 117)⟩]) <|
    .ret)
   (.skip)) <|
 .seq (.drw [1, 13, 17, 18, 20] 1 <|
  .take ⟨(some 119), none, .load true 4 (.t 13)⟩ <|
  .take ⟨(some 120), none, .mov (.t 1)⟩ <|
  .take ⟨(some 121), none, .faddr 0 (.t 13)⟩ <|
  .take ⟨(some 122), none, .load false 1 (.t 121)⟩ <|
  .alt ⟨(some 123), none, .call (.c (.g (.fn 30))) [(.t 120), (.t 122)]⟩
  (.alt ⟨(some 124), none, .call (.c (.g (.fn 24))) [(.t 119), (.t 123)]⟩
   (.take ⟨(some 118), none, .mov (.t 124)⟩ <|
    .take ⟨(some 125), none, .ext 0 (.t 118)⟩ <|
    .take ⟨(some 126), none, .ext 1 (.t 118)⟩ <|
    .take ⟨(some 127), none, .ext 2 (.t 118)⟩ <|
    .take ⟨(some 128), none, .ext 3 (.t 118)⟩ <|
    .one ⟨(some 17), none, .allocAt 0 [.z (.int .i64 0), .z (.int .i64 0), .s 6, .s 8]⟩ <|
    .free <|
    .one ⟨none, none, .store 4 (.t 17) (.t 125)⟩ <|
    .take ⟨(some 18), none, .mov (.t 126)⟩ <|
    .take ⟨(some 19), none, .mov (.t 127)⟩ <|
    .take ⟨(some 20), none, .mov (.t 128)⟩ <|
    .leaf)
   (.one ⟨(some 17), none, .allocAt 0 [.z (.int .i64 0), .z (.int .i64 0), .s 6, .s 8]⟩ <|
    .one ⟨(some 124), none, .call (.c (.g (.fn 24))) [(.t 119), (.t 123)]⟩ <|
    .take ⟨(some 118), none, .mov (.t 124)⟩ <|
    .take ⟨(some 125), none, .ext 0 (.t 118)⟩ <|
    .take ⟨(some 126), none, .ext 1 (.t 118)⟩ <|
    .take ⟨(some 127), none, .ext 2 (.t 118)⟩ <|
    .take ⟨(some 128), none, .ext 3 (.t 118)⟩ <|
    .free <|
    .one ⟨none, none, .store 4 (.t 17) (.t 125)⟩ <|
    .take ⟨(some 18), none, .mov (.t 126)⟩ <|
    .take ⟨(some 19), none, .mov (.t 127)⟩ <|
    .take ⟨(some 20), none, .mov (.t 128)⟩ <|
    .leaf))
  (.one ⟨(some 17), none, .allocAt 0 [.z (.int .i64 0), .z (.int .i64 0), .s 6, .s 8]⟩ <|
   .one ⟨(some 123), none, .call (.c (.g (.fn 30))) [(.t 120), (.t 122)]⟩ <|
   .one ⟨(some 124), none, .call (.c (.g (.fn 24))) [(.t 119), (.t 123)]⟩ <|
   .take ⟨(some 118), none, .mov (.t 124)⟩ <|
   .take ⟨(some 125), none, .ext 0 (.t 118)⟩ <|
   .take ⟨(some 126), none, .ext 1 (.t 118)⟩ <|
   .take ⟨(some 127), none, .ext 2 (.t 118)⟩ <|
   .take ⟨(some 128), none, .ext 3 (.t 118)⟩ <|
   .free <|
   .one ⟨none, none, .store 4 (.t 17) (.t 125)⟩ <|
   .take ⟨(some 18), none, .mov (.t 126)⟩ <|
   .take ⟨(some 19), none, .mov (.t 127)⟩ <|
   .take ⟨(some 20), none, .mov (.t 128)⟩ <|
   .leaf)) <|
 .seq (.seq (.reg [1, 13, 17, 18, 20, 130] [⟨(some 129), none, .mov (.t 20)⟩,
     ⟨(some 130), none, .bin .neq (.t 129) (.c (.g (.int .i64 0)))⟩]) <|
  .cond [1, 13, 17, 18] (.t 130)
   (.seq (.reg [6] [⟨(some 131), none, .mov (.t 20)⟩,
       ⟨(some 132), none, .bin .eql (.t 131) (.c (.g (.int .i64 4)))⟩,
       ⟨(some 133), none, .mov (.t 132)⟩,
       ⟨(some 134), (some (133, true)), .call (.c (.g (.fn 16))) []⟩,
       ⟨(some 135), none, .pick (.t 133) (.t 134) (.c (.g (.bool false)))⟩,
       ⟨(some 6), none, .mov (.t 135)⟩]) <|
    .ret)
   (.skip)) <|
 .seq (.drw [1, 17, 18, 21, 22, 24] 1 <|
  .take ⟨(some 137), none, .load true 4 (.t 17)⟩ <|
  .take ⟨(some 138), none, .mov (.t 1)⟩ <|
  .take ⟨(some 139), none, .faddr 0 (.t 13)⟩ <|
  .take ⟨(some 140), none, .load false 1 (.t 139)⟩ <|
  .alt ⟨(some 141), none, .call (.c (.g (.fn 30))) [(.t 138), (.t 140)]⟩
  (.alt ⟨(some 142), none, .call (.c (.g (.fn 24))) [(.t 137), (.t 141)]⟩
   (.take ⟨(some 136), none, .mov (.t 142)⟩ <|
    .take ⟨(some 143), none, .ext 0 (.t 136)⟩ <|
    .take ⟨(some 144), none, .ext 1 (.t 136)⟩ <|
    .take ⟨(some 145), none, .ext 2 (.t 136)⟩ <|
    .take ⟨(some 146), none, .ext 3 (.t 136)⟩ <|
    .one ⟨(some 21), none, .allocAt 0 [.z (.int .i64 0), .z (.int .i64 0), .s 6, .s 8]⟩ <|
    .free <|
    .one ⟨none, none, .store 4 (.t 21) (.t 143)⟩ <|
    .take ⟨(some 22), none, .mov (.t 144)⟩ <|
    .take ⟨(some 23), none, .mov (.t 145)⟩ <|
    .take ⟨(some 24), none, .mov (.t 146)⟩ <|
    .leaf)
   (.one ⟨(some 21), none, .allocAt 0 [.z (.int .i64 0), .z (.int .i64 0), .s 6, .s 8]⟩ <|
    .one ⟨(some 142), none, .call (.c (.g (.fn 24))) [(.t 137), (.t 141)]⟩ <|
    .take ⟨(some 136), none, .mov (.t 142)⟩ <|
    .take ⟨(some 143), none, .ext 0 (.t 136)⟩ <|
    .take ⟨(some 144), none, .ext 1 (.t 136)⟩ <|
    .take ⟨(some 145), none, .ext 2 (.t 136)⟩ <|
    .take ⟨(some 146), none, .ext 3 (.t 136)⟩ <|
    .free <|
    .one ⟨none, none, .store 4 (.t 21) (.t 143)⟩ <|
    .take ⟨(some 22), none, .mov (.t 144)⟩ <|
    .take ⟨(some 23), none, .mov (.t 145)⟩ <|
    .take ⟨(some 24), none, .mov (.t 146)⟩ <|
    .leaf))
  (.one ⟨(some 21), none, .allocAt 0 [.z (.int .i64 0), .z (.int .i64 0), .s 6, .s 8]⟩ <|
   .one ⟨(some 141), none, .call (.c (.g (.fn 30))) [(.t 138), (.t 140)]⟩ <|
   .one ⟨(some 142), none, .call (.c (.g (.fn 24))) [(.t 137), (.t 141)]⟩ <|
   .take ⟨(some 136), none, .mov (.t 142)⟩ <|
   .take ⟨(some 143), none, .ext 0 (.t 136)⟩ <|
   .take ⟨(some 144), none, .ext 1 (.t 136)⟩ <|
   .take ⟨(some 145), none, .ext 2 (.t 136)⟩ <|
   .take ⟨(some 146), none, .ext 3 (.t 136)⟩ <|
   .free <|
   .one ⟨none, none, .store 4 (.t 21) (.t 143)⟩ <|
   .take ⟨(some 22), none, .mov (.t 144)⟩ <|
   .take ⟨(some 23), none, .mov (.t 145)⟩ <|
   .take ⟨(some 24), none, .mov (.t 146)⟩ <|
   .leaf)) <|
 .seq (.reg [17, 18, 21, 22, 24, 26] [⟨(some 148), none, .load true 4 (.t 17)⟩,
    ⟨(some 149), none, .call (.c (.g (.fn 42))) [(.t 148)]⟩,
    ⟨(some 150), none, .mov (.t 1)⟩,
    ⟨(some 151), none, .call (.c (.g (.fn 49))) [(.t 149), (.t 150)]⟩,
    ⟨(some 147), none, .mov (.t 151)⟩,
    ⟨(some 152), none, .ext 0 (.t 147)⟩,
    ⟨(some 153), none, .ext 1 (.t 147)⟩,
    ⟨(some 25), none, .alloc [.z (.str []), .z (.str []), .z (.int .i64 0), .z (.int .i64 0), .z (.int .i64 0), .z (.int .i64 0)]⟩,
    ⟨none, none, .store 6 (.t 25) (.t 152)⟩,
    ⟨(some 26), none, .mov (.t 153)⟩]) <|
 .seq (.reg [6] [⟨(some 154), none, .mov (.t 18)⟩,
    ⟨(some 155), none, .mov (.t 154)⟩,
    ⟨(some 156), (some (155, true)), .mov (.t 26)⟩,
    ⟨(some 157), (some (155, true)), .un .not (.t 156)⟩,
    ⟨(some 158), none, .pick (.t 155) (.t 157) (.c (.g (.bool false)))⟩,
    ⟨(some 159), none, .mov (.t 158)⟩,
    ⟨(some 160), (some (159, true)), .mov (.t 24)⟩,
    ⟨(some 161), (some (159, true)), .bin .eql (.t 160) (.c (.g (.int .i64 0)))⟩,
    ⟨(some 162), none, .pick (.t 159) (.t 161) (.c (.g (.bool false)))⟩,
    ⟨(some 163), none, .mov (.t 162)⟩,
    ⟨(some 164), (some (163, true)), .mov (.t 22)⟩,
    ⟨(some 165), (some (163, true)), .un .not (.t 164)⟩,
    ⟨(some 166), none, .pick (.t 163) (.t 165) (.c (.g (.bool false)))⟩,
    ⟨(some 167), none, .mov (.t 166)⟩,
    ⟨(some 168), (some (167, true)), .load true 4 (.t 17)⟩,
    ⟨(some 169), (some (167, true)), .load true 4 (.t 21)⟩,
    ⟨(some 170), (some (167, true)), .call (.c (.g (.fn 26))) [(.t 168), (.t 169)]⟩,
    ⟨(some 171), none, .pick (.t 167) (.t 170) (.c (.g (.bool false)))⟩,
    ⟨(some 172), none, .mov (.t 171)⟩,
    ⟨(some 173), (some (172, true)), .call (.c (.g (.fn 16))) []⟩,
    ⟨(some 174), none, .pick (.t 172) (.t 173) (.c (.g (.bool false)))⟩,
    ⟨(some 6), none, .mov (.t 174)⟩]) <|
 .ret⟩
def h13 : List (List Nat) := [[1, 3, 5], [1, 3, 5, 51], [1, 3, 5], [6], [1, 3, 5, 7, 8, 10], [], [1, 3, 5, 7, 8, 65], [1, 3, 5, 7, 8], [6], [1, 3, 5, 7, 8, 12], [1, 3, 7, 8, 12, 13, 14, 16], [], [1, 3, 7, 8, 13, 109], [1, 3, 7, 8, 13], [6], [1, 3, 7, 13, 111], [1, 13], [6], [1, 13, 17, 18, 20], [], [1, 13, 17, 18, 20, 130], [1, 13, 17, 18], [6], [1, 17, 18, 21, 22, 24], [], [17, 18, 21, 22, 24, 26], [6]]
theorem c13 : cFunc Try.prog 13 false h13 = some F13 := by kernel_rfl

/-- baton/batonlaw06.TxnSwaps -/
def F14 : IFunc := ⟨3, 139, [.tmp 6], false,
 .seq (.reg [3, 4, 5] [⟨(some 3), none, .box (.t 0)⟩,
    ⟨(some 4), none, .box (.t 1)⟩,
    ⟨(some 5), none, .box (.t 2)⟩,
    ⟨(some 6), none, .mov (.c (.g (.bool false)))⟩]) <|
 .seq (.seq (.reg [3, 4, 5, 44] [⟨(some 20), none, .load true 4 (.t 3)⟩,
     ⟨(some 21), none, .call (.c (.g (.fn 21))) [(.t 20)]⟩,
     ⟨(some 22), none, .un .not (.t 21)⟩,
     ⟨(some 23), none, .mov (.t 22)⟩,
     ⟨(some 24), (some (23, false)), .load true 4 (.t 3)⟩,
     ⟨(some 25), (some (23, false)), .call (.c (.g (.fn 40))) [(.t 24)]⟩,
     ⟨(some 26), (some (23, false)), .un .not (.t 25)⟩,
     ⟨(some 27), none, .pick (.t 23) (.c (.g (.bool true))) (.t 26)⟩,
     ⟨(some 28), none, .mov (.t 27)⟩,
     ⟨(some 29), (some (28, false)), .load false 1 (.t 4)⟩,
     ⟨(some 30), (some (28, false)), .lenS (.t 29)⟩,
     ⟨(some 31), (some (28, false)), .bin .gtr (.t 30) (.c (.g (.int .i64 60)))⟩,
     ⟨(some 32), none, .pick (.t 28) (.c (.g (.bool true))) (.t 31)⟩,
     ⟨(some 33), none, .mov (.t 32)⟩,
     ⟨(some 34), (some (33, false)), .iaddrA 2 1 (.t 5) (.c (.g (.int .i64 0)))⟩,
     ⟨(some 35), (some (33, false)), .load false 1 (.t 34)⟩,
     ⟨(some 36), (some (33, false)), .lenS (.t 35)⟩,
     ⟨(some 37), (some (33, false)), .bin .gtr (.t 36) (.c (.g (.int .i64 60)))⟩,
     ⟨(some 38), none, .pick (.t 33) (.c (.g (.bool true))) (.t 37)⟩,
     ⟨(some 39), none, .mov (.t 38)⟩,
     ⟨(some 40), (some (39, false)), .iaddrA 2 1 (.t 5) (.c (.g (.int .i64 1)))⟩,
     ⟨(some 41), (some (39, false)), .load false 1 (.t 40)⟩,
     ⟨(some 42), (some (39, false)), .lenS (.t 41)⟩,
     ⟨(some 43), (some (39, false)), .bin .gtr (.t 42) (.c (.g (.int .i64 60)))⟩,
     ⟨(some 44), none, .pick (.t 39) (.c (.g (.bool true))) (.t 43)⟩]) <|
  .cond [3, 4, 5] (.t 44)
   (.seq (.reg [6] [⟨(some 45), none, .call (.c (.g (.fn 16))) []⟩,
       ⟨(some 6), none, .mov (.t 45)⟩]) <|
    .ret)
   (.skip)) <|
 .seq (.drw [3, 4, 5, 7] 1 <|
  .take ⟨(some 47), none, .load true 4 (.t 3)⟩ <|
  .take ⟨(some 49), none, .load false 1 (.t 4)⟩ <|
  .alt ⟨(some 48), none, .call (.c (.g (.fn 42))) [(.t 47)]⟩
  (.alt ⟨(some 50), none, .call (.c (.g (.fn 49))) [(.t 48), (.t 49)]⟩
   (.take ⟨(some 46), none, .mov (.t 50)⟩ <|
    .take ⟨(some 51), none, .ext 0 (.t 46)⟩ <|
    .take ⟨(some 52), none, .ext 1 (.t 46)⟩ <|
    .one ⟨(some 7), none, .allocAt 0 [.z (.str []), .z (.str []), .z (.int .i64 0), .z (.int .i64 0), .z (.int .i64 0), .z (.int .i64 0)]⟩ <|
    .free <|
    .one ⟨none, none, .store 6 (.t 7) (.t 51)⟩ <|
    .take ⟨(some 8), none, .mov (.t 52)⟩ <|
    .leaf)
   (.one ⟨(some 7), none, .allocAt 0 [.z (.str []), .z (.str []), .z (.int .i64 0), .z (.int .i64 0), .z (.int .i64 0), .z (.int .i64 0)]⟩ <|
    .one ⟨(some 50), none, .call (.c (.g (.fn 49))) [(.t 48), (.t 49)]⟩ <|
    .take ⟨(some 46), none, .mov (.t 50)⟩ <|
    .take ⟨(some 51), none, .ext 0 (.t 46)⟩ <|
    .take ⟨(some 52), none, .ext 1 (.t 46)⟩ <|
    .free <|
    .one ⟨none, none, .store 6 (.t 7) (.t 51)⟩ <|
    .take ⟨(some 8), none, .mov (.t 52)⟩ <|
    .leaf))
  (.one ⟨(some 7), none, .allocAt 0 [.z (.str []), .z (.str []), .z (.int .i64 0), .z (.int .i64 0), .z (.int .i64 0), .z (.int .i64 0)]⟩ <|
   .one ⟨(some 48), none, .call (.c (.g (.fn 42))) [(.t 47)]⟩ <|
   .one ⟨(some 50), none, .call (.c (.g (.fn 49))) [(.t 48), (.t 49)]⟩ <|
   .take ⟨(some 46), none, .mov (.t 50)⟩ <|
   .take ⟨(some 51), none, .ext 0 (.t 46)⟩ <|
   .take ⟨(some 52), none, .ext 1 (.t 46)⟩ <|
   .free <|
   .one ⟨none, none, .store 6 (.t 7) (.t 51)⟩ <|
   .take ⟨(some 8), none, .mov (.t 52)⟩ <|
   .leaf)) <|
 .seq (.reg [3, 4, 5, 9] [⟨(some 53), none, .mkfn 50 [(.t 4), (.t 7)]⟩,
    ⟨(some 9), none, .mov (.t 53)⟩]) <|
 .seq (.drw [3, 4, 5, 9, 10, 11, 13] 1 <|
  .take ⟨(some 55), none, .load true 4 (.t 3)⟩ <|
  .take ⟨(some 56), none, .mov (.t 9)⟩ <|
  .take ⟨(some 57), none, .iaddrA 2 1 (.t 5) (.c (.g (.int .i64 0)))⟩ <|
  .take ⟨(some 58), none, .load false 1 (.t 57)⟩ <|
  .alt ⟨(some 59), none, .call (.t 56) [(.t 58)]⟩
  (.alt ⟨(some 60), none, .call (.c (.g (.fn 24))) [(.t 55), (.t 59)]⟩
   (.take ⟨(some 54), none, .mov (.t 60)⟩ <|
    .take ⟨(some 61), none, .ext 0 (.t 54)⟩ <|
    .take ⟨(some 62), none, .ext 1 (.t 54)⟩ <|
    .take ⟨(some 63), none, .ext 2 (.t 54)⟩ <|
    .take ⟨(some 64), none, .ext 3 (.t 54)⟩ <|
    .one ⟨(some 10), none, .allocAt 0 [.z (.int .i64 0), .z (.int .i64 0), .s 6, .s 8]⟩ <|
    .free <|
    .one ⟨none, none, .store 4 (.t 10) (.t 61)⟩ <|
    .take ⟨(some 11), none, .mov (.t 62)⟩ <|
    .take ⟨(some 12), none, .mov (.t 63)⟩ <|
    .take ⟨(some 13), none, .mov (.t 64)⟩ <|
    .leaf)
   (.one ⟨(some 10), none, .allocAt 0 [.z (.int .i64 0), .z (.int .i64 0), .s 6, .s 8]⟩ <|
    .one ⟨(some 60), none, .call (.c (.g (.fn 24))) [(.t 55), (.t 59)]⟩ <|
    .take ⟨(some 54), none, .mov (.t 60)⟩ <|
    .take ⟨(some 61), none, .ext 0 (.t 54)⟩ <|
    .take ⟨(some 62), none, .ext 1 (.t 54)⟩ <|
    .take ⟨(some 63), none, .ext 2 (.t 54)⟩ <|
    .take ⟨(some 64), none, .ext 3 (.t 54)⟩ <|
    .free <|
    .one ⟨none, none, .store 4 (.t 10) (.t 61)⟩ <|
    .take ⟨(some 11), none, .mov (.t 62)⟩ <|
    .take ⟨(some 12), none, .mov (.t 63)⟩ <|
    .take ⟨(some 13), none, .mov (.t 64)⟩ <|
    .leaf))
  (.one ⟨(some 10), none, .allocAt 0 [.z (.int .i64 0), .z (.int .i64 0), .s 6, .s 8]⟩ <|
   .one ⟨(some 59), none, .call (.t 56) [(.t 58)]⟩ <|
   .one ⟨(some 60), none, .call (.c (.g (.fn 24))) [(.t 55), (.t 59)]⟩ <|
   .take ⟨(some 54), none, .mov (.t 60)⟩ <|
   .take ⟨(some 61), none, .ext 0 (.t 54)⟩ <|
   .take ⟨(some 62), none, .ext 1 (.t 54)⟩ <|
   .take ⟨(some 63), none, .ext 2 (.t 54)⟩ <|
   .take ⟨(some 64), none, .ext 3 (.t 54)⟩ <|
   .free <|
   .one ⟨none, none, .store 4 (.t 10) (.t 61)⟩ <|
   .take ⟨(some 11), none, .mov (.t 62)⟩ <|
   .take ⟨(some 12), none, .mov (.t 63)⟩ <|
   .take ⟨(some 13), none, .mov (.t 64)⟩ <|
   .leaf)) <|
 .seq (.seq (.reg [3, 4, 5, 9, 10, 11, 66] [⟨(some 65), none, .mov (.t 13)⟩,
     ⟨(some 66), none, .bin .neq (.t 65) (.c (.g (.int .i64 0)))⟩]) <|
  .cond [3, 4, 5, 9, 10, 11] (.t 66)
   (.seq (.reg [6] [⟨(some 67), none, .mov (.t 11)⟩,
       ⟨(some 68), none, .un .not (.t 67)⟩,
       ⟨(some 69), none, .mov (.t 68)⟩,
       ⟨(some 70), (some (69, true)), .load true 4 (.t 3)⟩,
       ⟨(some 71), (some (69, true)), .load true 4 (.t 10)⟩,
       ⟨(some 72), (some (69, true)), .call (.c (.g (.fn 26))) [(.t 70), (.t 71)]⟩,
       ⟨(some 73), none, .pick (.t 69) (.t 72) (.c (.g (.bool false)))⟩,
       ⟨(some 74), none, .mov (.t 73)⟩,
       ⟨(some 75), (some (74, true)), .call (.c (.g (.fn 16))) []⟩,
       ⟨(some 76), none, .pick (.t 74) (.t 75) (.c (.g (.bool false)))⟩,
       ⟨(some 6), none, .mov (.t 76)⟩]) <|
    .ret)
   (.skip)) <|
 .seq (.drw [3, 4, 5, 10, 11, 14, 15, 17] 1 <|
  .take ⟨(some 78), none, .load true 4 (.t 10)⟩ <|
  .take ⟨(some 79), none, .mov (.t 9)⟩ <|
  .take ⟨(some 80), none, .iaddrA 2 1 (.t 5) (.c (.g (.int .i64 1)))⟩ <|
  .take ⟨(some 81), none, .load false 1 (.t 80)⟩ <|
  .alt ⟨(some 82), none, .call (.t 79) [(.t 81)]⟩
  (.alt ⟨(some 83), none, .call (.c (.g (.fn 24))) [(.t 78), (.t 82)]⟩
   (.take ⟨(some 77), none, .mov (.t 83)⟩ <|
    .take ⟨(some 84), none, .ext 0 (.t 77)⟩ <|
    .take ⟨(some 85), none, .ext 1 (.t 77)⟩ <|
    .take ⟨(some 86), none, .ext 2 (.t 77)⟩ <|
    .take ⟨(some 87), none, .ext 3 (.t 77)⟩ <|
    .one ⟨(some 14), none, .allocAt 0 [.z (.int .i64 0), .z (.int .i64 0), .s 6, .s 8]⟩ <|
    .free <|
    .one ⟨none, none, .store 4 (.t 14) (.t 84)⟩ <|
    .take ⟨(some 15), none, .mov (.t 85)⟩ <|
    .take ⟨(some 16), none, .mov (.t 86)⟩ <|
    .take ⟨(some 17), none, .mov (.t 87)⟩ <|
    .leaf)
   (.one ⟨(some 14), none, .allocAt 0 [.z (.int .i64 0), .z (.int .i64 0), .s 6, .s 8]⟩ <|
    .one ⟨(some 83), none, .call (.c (.g (.fn 24))) [(.t 78), (.t 82)]⟩ <|
    .take ⟨(some 77), none, .mov (.t 83)⟩ <|
    .take ⟨(some 84), none, .ext 0 (.t 77)⟩ <|
    .take ⟨(some 85), none, .ext 1 (.t 77)⟩ <|
    .take ⟨(some 86), none, .ext 2 (.t 77)⟩ <|
    .take ⟨(some 87), none, .ext 3 (.t 77)⟩ <|
    .free <|
    .one ⟨none, none, .store 4 (.t 14) (.t 84)⟩ <|
    .take ⟨(some 15), none, .mov (.t 85)⟩ <|
    .take ⟨(some 16), none, .mov (.t 86)⟩ <|
    .take ⟨(some 17), none, .mov (.t 87)⟩ <|
    .leaf))
  (.one ⟨(some 14), none, .allocAt 0 [.z (.int .i64 0), .z (.int .i64 0), .s 6, .s 8]⟩ <|
   .one ⟨(some 82), none, .call (.t 79) [(.t 81)]⟩ <|
   .one ⟨(some 83), none, .call (.c (.g (.fn 24))) [(.t 78), (.t 82)]⟩ <|
   .take ⟨(some 77), none, .mov (.t 83)⟩ <|
   .take ⟨(some 84), none, .ext 0 (.t 77)⟩ <|
   .take ⟨(some 85), none, .ext 1 (.t 77)⟩ <|
   .take ⟨(some 86), none, .ext 2 (.t 77)⟩ <|
   .take ⟨(some 87), none, .ext 3 (.t 77)⟩ <|
   .free <|
   .one ⟨none, none, .store 4 (.t 14) (.t 84)⟩ <|
   .take ⟨(some 15), none, .mov (.t 85)⟩ <|
   .take ⟨(some 16), none, .mov (.t 86)⟩ <|
   .take ⟨(some 17), none, .mov (.t 87)⟩ <|
   .leaf)) <|
 .seq (.seq (.reg [3, 4, 5, 10, 11, 14, 15, 17, 89] [⟨(some 88), none, .mov (.t 17)⟩,
     ⟨(some 89), none, .bin .eql (.t 88) (.c (.g (.int .i64 1)))⟩]) <|
  .cond [3, 4, 5, 10, 11, 14, 15, 17] (.t 89)
   (.seq (.reg [6] [⟨(some 90), none, .iaddrA 2 1 (.t 5) (.c (.g (.int .i64 1)))⟩,
       ⟨(some 91), none, .load false 1 (.t 90)⟩,
       ⟨(some 92), none, .lenS (.t 91)⟩,
       ⟨(some 93), none, .bin .gtr (.t 92) (.c (.g (.int .i64 20)))⟩,
       ⟨(some 94), none, .mov (.t 93)⟩,
       ⟨(some 95), (some (94, true)), .call (.c (.g (.fn 16))) []⟩,
       ⟨(some 96), none, .pick (.t 94) (.t 95) (.c (.g (.bool false)))⟩,
       ⟨(some 6), none, .mov (.t 96)⟩]) <|
    .ret)
   (.skip)) <|
 .seq (.drw [3, 5, 10, 11, 14, 15, 17, 18, 19] 1 <|
  .take ⟨(some 98), none, .load true 4 (.t 14)⟩ <|
  .take ⟨(some 100), none, .load false 1 (.t 4)⟩ <|
  .alt ⟨(some 99), none, .call (.c (.g (.fn 42))) [(.t 98)]⟩
  (.alt ⟨(some 101), none, .call (.c (.g (.fn 49))) [(.t 99), (.t 100)]⟩
   (.take ⟨(some 97), none, .mov (.t 101)⟩ <|
    .take ⟨(some 102), none, .ext 0 (.t 97)⟩ <|
    .take ⟨(some 103), none, .ext 1 (.t 97)⟩ <|
    .one ⟨(some 18), none, .allocAt 0 [.z (.str []), .z (.str []), .z (.int .i64 0), .z (.int .i64 0), .z (.int .i64 0), .z (.int .i64 0)]⟩ <|
    .free <|
    .one ⟨none, none, .store 6 (.t 18) (.t 102)⟩ <|
    .take ⟨(some 19), none, .mov (.t 103)⟩ <|
    .leaf)
   (.one ⟨(some 18), none, .allocAt 0 [.z (.str []), .z (.str []), .z (.int .i64 0), .z (.int .i64 0), .z (.int .i64 0), .z (.int .i64 0)]⟩ <|
    .one ⟨(some 101), none, .call (.c (.g (.fn 49))) [(.t 99), (.t 100)]⟩ <|
    .take ⟨(some 97), none, .mov (.t 101)⟩ <|
    .take ⟨(some 102), none, .ext 0 (.t 97)⟩ <|
    .take ⟨(some 103), none, .ext 1 (.t 97)⟩ <|
    .free <|
    .one ⟨none, none, .store 6 (.t 18) (.t 102)⟩ <|
    .take ⟨(some 19), none, .mov (.t 103)⟩ <|
    .leaf))
  (.one ⟨(some 18), none, .allocAt 0 [.z (.str []), .z (.str []), .z (.int .i64 0), .z (.int .i64 0), .z (.int .i64 0), .z (.int .i64 0)]⟩ <|
   .one ⟨(some 99), none, .call (.c (.g (.fn 42))) [(.t 98)]⟩ <|
   .one ⟨(some 101), none, .call (.c (.g (.fn 49))) [(.t 99), (.t 100)]⟩ <|
   .take ⟨(some 97), none, .mov (.t 101)⟩ <|
   .take ⟨(some 102), none, .ext 0 (.t 97)⟩ <|
   .take ⟨(some 103), none, .ext 1 (.t 97)⟩ <|
   .free <|
   .one ⟨none, none, .store 6 (.t 18) (.t 102)⟩ <|
   .take ⟨(some 19), none, .mov (.t 103)⟩ <|
   .leaf)) <|
 .seq (.reg [6] [⟨(some 104), none, .mov (.t 11)⟩,
    ⟨(some 105), none, .mov (.t 104)⟩,
    ⟨(some 106), (some (105, true)), .mov (.t 15)⟩,
    ⟨(some 107), (some (105, true)), .un .not (.t 106)⟩,
    ⟨(some 108), none, .pick (.t 105) (.t 107) (.c (.g (.bool false)))⟩,
    ⟨(some 109), none, .mov (.t 108)⟩,
    ⟨(some 110), (some (109, true)), .mov (.t 17)⟩,
    ⟨(some 111), (some (109, true)), .bin .eql (.t 110) (.c (.g (.int .i64 0)))⟩,
    ⟨(some 112), none, .pick (.t 109) (.t 111) (.c (.g (.bool false)))⟩,
    ⟨(some 113), none, .mov (.t 112)⟩,
    ⟨(some 114), (some (113, true)), .load true 4 (.t 10)⟩,
    ⟨(some 115), (some (113, true)), .load true 4 (.t 14)⟩,
    ⟨(some 116), (some (113, true)), .call (.c (.g (.fn 26))) [(.t 114), (.t 115)]⟩,
    ⟨(some 117), none, .pick (.t 113) (.t 116) (.c (.g (.bool false)))⟩,
    ⟨(some 118), none, .mov (.t 117)⟩,
    ⟨(some 119), (some (118, true)), .mov (.t 19)⟩,
    ⟨(some 120), none, .pick (.t 118) (.t 119) (.c (.g (.bool false)))⟩,
    ⟨(some 121), none, .mov (.t 120)⟩,
    ⟨(some 122), (some (121, true)), .faddr 1 (.t 18)⟩,
    ⟨(some 123), (some (121, true)), .load false 1 (.t 122)⟩,
    ⟨(some 124), (some (121, true)), .iaddrA 2 1 (.t 5) (.c (.g (.int .i64 0)))⟩,
    ⟨(some 125), (some (121, true)), .load false 1 (.t 124)⟩,
    ⟨(some 126), (some (121, true)), .bin .eql (.t 123) (.t 125)⟩,
    ⟨(some 127), none, .pick (.t 121) (.t 126) (.c (.g (.bool false)))⟩,
    ⟨(some 128), none, .mov (.t 127)⟩,
    ⟨(some 129), (some (128, true)), .faddr 3 (.t 18)⟩,
    ⟨(some 130), (some (128, true)), .load false 1 (.t 129)⟩,
    ⟨(some 131), (some (128, true)), .faddr 0 (.t 3)⟩,
    ⟨(some 132), (some (128, true)), .load false 1 (.t 131)⟩,
    ⟨(some 133), (some (128, true)), .bin .add (.t 132) (.c (.g (.int .i64 1)))⟩,
    ⟨(some 134), (some (128, true)), .bin .eql (.t 130) (.t 133)⟩,
    ⟨(some 135), none, .pick (.t 128) (.t 134) (.c (.g (.bool false)))⟩,
    ⟨(some 136), none, .mov (.t 135)⟩,
    ⟨(some 137), (some (136, true)), .call (.c (.g (.fn 16))) []⟩,
    ⟨(some 138), none, .pick (.t 136) (.t 137) (.c (.g (.bool false)))⟩,
    ⟨(some 6), none, .mov (.t 138)⟩]) <|
 .ret⟩
def h14 : List (List Nat) := [[3, 4, 5], [3, 4, 5, 44], [3, 4, 5], [6], [3, 4, 5, 7], [], [3, 4, 5, 9], [3, 4, 5, 9, 10, 11, 13], [], [3, 4, 5, 9, 10, 11, 66], [3, 4, 5, 9, 10, 11], [6], [3, 4, 5, 10, 11, 14, 15, 17], [], [3, 4, 5, 10, 11, 14, 15, 17, 89], [3, 4, 5, 10, 11, 14, 15, 17], [6], [3, 5, 10, 11, 14, 15, 17, 18, 19], [], [6]]
theorem c14 : cFunc Try.prog 14 false h14 = some F14 := by kernel_rfl

/-- baton/batonref03.Few -/
def L15_0 : IC :=
 .seq (.seq (.reg [0, 5, 13] [⟨(some 10), none, .mov (.t 5)⟩,
     ⟨(some 11), none, .mov (.t 0)⟩,
     ⟨(some 12), none, .len (.t 11)⟩,
     ⟨(some 13), none, .bin .lss (.t 10) (.t 12)⟩]) <|
  .cond [0, 5] (.t 13)
   (.skip)
   (.exit 0)) <|
 .seq (.block [0, 5] 1 <|
  .seq (.reg [0, 5, 31] [⟨(some 16), none, .mov (.t 0)⟩,
     ⟨(some 17), none, .mov (.t 5)⟩,
     ⟨(some 18), none, .iaddr 6 (.t 16) (.t 17)⟩,
     ⟨(some 19), none, .faddr 0 (.t 18)⟩,
     ⟨(some 20), none, .load false 1 (.t 19)⟩,
     ⟨(some 21), none, .lenS (.t 20)⟩,
     ⟨(some 22), none, .bin .gtr (.t 21) (.c (.g (.int .i64 60)))⟩,
     ⟨(some 23), none, .mov (.t 22)⟩,
     ⟨(some 24), (some (23, false)), .mov (.t 0)⟩,
     ⟨(some 25), (some (23, false)), .mov (.t 5)⟩,
     ⟨(some 26), (some (23, false)), .iaddr 6 (.t 24) (.t 25)⟩,
     ⟨(some 27), (some (23, false)), .faddr 1 (.t 26)⟩,
     ⟨(some 28), (some (23, false)), .load false 1 (.t 27)⟩,
     ⟨(some 29), (some (23, false)), .lenS (.t 28)⟩,
     ⟨(some 30), (some (23, false)), .bin .gtr (.t 29) (.c (.g (.int .i64 60)))⟩,
     ⟨(some 31), none, .pick (.t 23) (.c (.g (.bool true))) (.t 30)⟩]) <|
  .cond [0, 5] (.t 31)
   (.seq (.reg [4] [⟨(some 4), none, .mov (.c (.g (.bool false)))⟩]) <|
    .ret)
   (.skip)) <|
 .reg [0, 5] [⟨(some 14), none, .mov (.t 5)⟩,
   ⟨(some 15), none, .bin .add (.t 14) (.c (.g (.int .i64 1)))⟩,
   ⟨(some 5), none, .mov (.t 15)⟩]
def F15 : IFunc := ⟨2, 32, [.tmp 4], false,
 .seq (.reg [0, 1] [⟨(some 4), none, .mov (.c (.g (.bool false)))⟩]) <|
 .seq (.seq (.reg [0, 9] [⟨(some 6), none, .mov (.t 0)⟩,
     ⟨(some 7), none, .len (.t 6)⟩,
     ⟨(some 8), none, .mov (.t 1)⟩,
     ⟨(some 9), none, .bin .gtr (.t 7) (.t 8)⟩]) <|
  .cond [0] (.t 9)
   (.seq (.reg [4] [⟨(some 4), none, .mov (.c (.g (.bool false)))⟩]) <|
    .ret)
   (.skip)) <|
 .seq (.seq (.reg [0, 5] [⟨(some 5), none, .mov (.c (.g (.int .i64 0)))⟩]) <|
  .block [] 0 <|
  .loop [0, 5] [] L15_0) <|
 .seq (.reg [4] [⟨(some 4), none, .mov (.c (.g (.bool true)))⟩]) <|
 .ret⟩
def h15 : List (List Nat) := [[0, 1], [0, 9], [0], [4], [0, 5], [], [0, 5], [0, 5, 13], [0, 5], [0, 5], [0, 5, 31], [0, 5], [4], [0, 5], [4]]
theorem c15 : cFunc Try.prog 15 false h15 = some F15 := by kernel_rfl

/-- baton/batonlaw06.live -/
def F16 : IFunc := ⟨0, 147, [.tmp 0], false,
 .seq (.reg [] [⟨(some 0), none, .mov (.c (.g (.bool false)))⟩]) <|
 .seq (.reg [1, 2, 3, 4] [⟨(some 23), none, .call (.c (.g (.fn 51))) []⟩,
    ⟨(some 24), none, .call (.c (.g (.fn 28))) [(.c (.g (.str [97]))), (.c (.g (.str [118]))), (.c (.g (.int .i64 5)))]⟩,
    ⟨(some 25), none, .call (.c (.g (.fn 24))) [(.t 23), (.t 24)]⟩,
    ⟨(some 22), none, .mov (.t 25)⟩,
    ⟨(some 26), none, .ext 0 (.t 22)⟩,
    ⟨(some 27), none, .ext 1 (.t 22)⟩,
    ⟨(some 28), none, .ext 2 (.t 22)⟩,
    ⟨(some 29), none, .ext 3 (.t 22)⟩,
    ⟨(some 1), none, .alloc [.z (.int .i64 0), .z (.int .i64 0), .s 6, .s 8]⟩,
    ⟨none, none, .store 4 (.t 1) (.t 26)⟩,
    ⟨(some 2), none, .mov (.t 27)⟩,
    ⟨(some 3), none, .mov (.t 28)⟩,
    ⟨(some 4), none, .mov (.t 29)⟩]) <|
 .seq (.drw [1, 2, 3, 4, 5, 6, 7, 8] 1 <|
  .take ⟨(some 31), none, .load true 4 (.t 1)⟩ <|
  .alt ⟨(some 32), none, .call (.c (.g (.fn 28))) [(.c (.g (.str [97]))), (.c (.g (.str [119]))), (.c (.g (.int .i64 6)))]⟩
  (.alt ⟨(some 33), none, .call (.c (.g (.fn 24))) [(.t 31), (.t 32)]⟩
   (.take ⟨(some 30), none, .mov (.t 33)⟩ <|
    .take ⟨(some 34), none, .ext 0 (.t 30)⟩ <|
    .take ⟨(some 35), none, .ext 1 (.t 30)⟩ <|
    .take ⟨(some 36), none, .ext 2 (.t 30)⟩ <|
    .take ⟨(some 37), none, .ext 3 (.t 30)⟩ <|
    .one ⟨(some 5), none, .allocAt 0 [.z (.int .i64 0), .z (.int .i64 0), .s 6, .s 8]⟩ <|
    .free <|
    .one ⟨none, none, .store 4 (.t 5) (.t 34)⟩ <|
    .take ⟨(some 6), none, .mov (.t 35)⟩ <|
    .take ⟨(some 7), none, .mov (.t 36)⟩ <|
    .take ⟨(some 8), none, .mov (.t 37)⟩ <|
    .leaf)
   (.one ⟨(some 5), none, .allocAt 0 [.z (.int .i64 0), .z (.int .i64 0), .s 6, .s 8]⟩ <|
    .one ⟨(some 33), none, .call (.c (.g (.fn 24))) [(.t 31), (.t 32)]⟩ <|
    .take ⟨(some 30), none, .mov (.t 33)⟩ <|
    .take ⟨(some 34), none, .ext 0 (.t 30)⟩ <|
    .take ⟨(some 35), none, .ext 1 (.t 30)⟩ <|
    .take ⟨(some 36), none, .ext 2 (.t 30)⟩ <|
    .take ⟨(some 37), none, .ext 3 (.t 30)⟩ <|
    .free <|
    .one ⟨none, none, .store 4 (.t 5) (.t 34)⟩ <|
    .take ⟨(some 6), none, .mov (.t 35)⟩ <|
    .take ⟨(some 7), none, .mov (.t 36)⟩ <|
    .take ⟨(some 8), none, .mov (.t 37)⟩ <|
    .leaf))
  (.one ⟨(some 5), none, .allocAt 0 [.z (.int .i64 0), .z (.int .i64 0), .s 6, .s 8]⟩ <|
   .one ⟨(some 32), none, .call (.c (.g (.fn 28))) [(.c (.g (.str [97]))), (.c (.g (.str [119]))), (.c (.g (.int .i64 6)))]⟩ <|
   .one ⟨(some 33), none, .call (.c (.g (.fn 24))) [(.t 31), (.t 32)]⟩ <|
   .take ⟨(some 30), none, .mov (.t 33)⟩ <|
   .take ⟨(some 34), none, .ext 0 (.t 30)⟩ <|
   .take ⟨(some 35), none, .ext 1 (.t 30)⟩ <|
   .take ⟨(some 36), none, .ext 2 (.t 30)⟩ <|
   .take ⟨(some 37), none, .ext 3 (.t 30)⟩ <|
   .free <|
   .one ⟨none, none, .store 4 (.t 5) (.t 34)⟩ <|
   .take ⟨(some 6), none, .mov (.t 35)⟩ <|
   .take ⟨(some 7), none, .mov (.t 36)⟩ <|
   .take ⟨(some 8), none, .mov (.t 37)⟩ <|
   .leaf)) <|
 .seq (.drw [1, 2, 3, 4, 5, 6, 7, 8, 9, 10, 12] 1 <|
  .take ⟨(some 39), none, .load true 4 (.t 5)⟩ <|
  .alt ⟨(some 40), none, .call (.c (.g (.fn 30))) [(.c (.g (.str [97]))), (.c (.g (.int .i64 2)))]⟩
  (.alt ⟨(some 41), none, .call (.c (.g (.fn 24))) [(.t 39), (.t 40)]⟩
   (.take ⟨(some 38), none, .mov (.t 41)⟩ <|
    .take ⟨(some 42), none, .ext 0 (.t 38)⟩ <|
    .take ⟨(some 43), none, .ext 1 (.t 38)⟩ <|
    .take ⟨(some 44), none, .ext 2 (.t 38)⟩ <|
    .take ⟨(some 45), none, .ext 3 (.t 38)⟩ <|
    .one ⟨(some 9), none, .allocAt 0 [.z (.int .i64 0), .z (.int .i64 0), .s 6, .s 8]⟩ <|
    .free <|
    .one ⟨none, none, .store 4 (.t 9) (.t 42)⟩ <|
    .take ⟨(some 10), none, .mov (.t 43)⟩ <|
    .take ⟨(some 11), none, .mov (.t 44)⟩ <|
    .take ⟨(some 12), none, .mov (.t 45)⟩ <|
    .leaf)
   (.one ⟨(some 9), none, .allocAt 0 [.z (.int .i64 0), .z (.int .i64 0), .s 6, .s 8]⟩ <|
    .one ⟨(some 41), none, .call (.c (.g (.fn 24))) [(.t 39), (.t 40)]⟩ <|
    .take ⟨(some 38), none, .mov (.t 41)⟩ <|
    .take ⟨(some 42), none, .ext 0 (.t 38)⟩ <|
    .take ⟨(some 43), none, .ext 1 (.t 38)⟩ <|
    .take ⟨(some 44), none, .ext 2 (.t 38)⟩ <|
    .take ⟨(some 45), none, .ext 3 (.t 38)⟩ <|
    .free <|
    .one ⟨none, none, .store 4 (.t 9) (.t 42)⟩ <|
    .take ⟨(some 10), none, .mov (.t 43)⟩ <|
    .take ⟨(some 11), none, .mov (.t 44)⟩ <|
    .take ⟨(some 12), none, .mov (.t 45)⟩ <|
    .leaf))
  (.one ⟨(some 9), none, .allocAt 0 [.z (.int .i64 0), .z (.int .i64 0), .s 6, .s 8]⟩ <|
   .one ⟨(some 40), none, .call (.c (.g (.fn 30))) [(.c (.g (.str [97]))), (.c (.g (.int .i64 2)))]⟩ <|
   .one ⟨(some 41), none, .call (.c (.g (.fn 24))) [(.t 39), (.t 40)]⟩ <|
   .take ⟨(some 38), none, .mov (.t 41)⟩ <|
   .take ⟨(some 42), none, .ext 0 (.t 38)⟩ <|
   .take ⟨(some 43), none, .ext 1 (.t 38)⟩ <|
   .take ⟨(some 44), none, .ext 2 (.t 38)⟩ <|
   .take ⟨(some 45), none, .ext 3 (.t 38)⟩ <|
   .free <|
   .one ⟨none, none, .store 4 (.t 9) (.t 42)⟩ <|
   .take ⟨(some 10), none, .mov (.t 43)⟩ <|
   .take ⟨(some 11), none, .mov (.t 44)⟩ <|
   .take ⟨(some 12), none, .mov (.t 45)⟩ <|
   .leaf)) <|
 .seq (.drw [1, 2, 3, 4, 5, 6, 7, 8, 10, 12, 13, 14, 15, 16] 1 <|
  .take ⟨(some 47), none, .load true 4 (.t 9)⟩ <|
  .alt ⟨(some 48), none, .call (.c (.g (.fn 30))) [(.c (.g (.str [97]))), (.c (.g (.int .i64 1)))]⟩
  (.alt ⟨(some 49), none, .call (.c (.g (.fn 24))) [(.t 47), (.t 48)]⟩
   (.take ⟨(some 46), none, .mov (.t 49)⟩ <|
    .take ⟨(some 50), none, .ext 0 (.t 46)⟩ <|
    .take ⟨(some 51), none, .ext 1 (.t 46)⟩ <|
    .take ⟨(some 52), none, .ext 2 (.t 46)⟩ <|
    .take ⟨(some 53), none, .ext 3 (.t 46)⟩ <|
    .one ⟨(some 13), none, .allocAt 0 [.z (.int .i64 0), .z (.int .i64 0), .s 6, .s 8]⟩ <|
    .free <|
    .one ⟨none, none, .store 4 (.t 13) (.t 50)⟩ <|
    .take ⟨(some 14), none, .mov (.t 51)⟩ <|
    .take ⟨(some 15), none, .mov (.t 52)⟩ <|
    .take ⟨(some 16), none, .mov (.t 53)⟩ <|
    .leaf)
   (.one ⟨(some 13), none, .allocAt 0 [.z (.int .i64 0), .z (.int .i64 0), .s 6, .s 8]⟩ <|
    .one ⟨(some 49), none, .call (.c (.g (.fn 24))) [(.t 47), (.t 48)]⟩ <|
    .take ⟨(some 46), none, .mov (.t 49)⟩ <|
    .take ⟨(some 50), none, .ext 0 (.t 46)⟩ <|
    .take ⟨(some 51), none, .ext 1 (.t 46)⟩ <|
    .take ⟨(some 52), none, .ext 2 (.t 46)⟩ <|
    .take ⟨(some 53), none, .ext 3 (.t 46)⟩ <|
    .free <|
    .one ⟨none, none, .store 4 (.t 13) (.t 50)⟩ <|
    .take ⟨(some 14), none, .mov (.t 51)⟩ <|
    .take ⟨(some 15), none, .mov (.t 52)⟩ <|
    .take ⟨(some 16), none, .mov (.t 53)⟩ <|
    .leaf))
  (.one ⟨(some 13), none, .allocAt 0 [.z (.int .i64 0), .z (.int .i64 0), .s 6, .s 8]⟩ <|
   .one ⟨(some 48), none, .call (.c (.g (.fn 30))) [(.c (.g (.str [97]))), (.c (.g (.int .i64 1)))]⟩ <|
   .one ⟨(some 49), none, .call (.c (.g (.fn 24))) [(.t 47), (.t 48)]⟩ <|
   .take ⟨(some 46), none, .mov (.t 49)⟩ <|
   .take ⟨(some 50), none, .ext 0 (.t 46)⟩ <|
   .take ⟨(some 51), none, .ext 1 (.t 46)⟩ <|
   .take ⟨(some 52), none, .ext 2 (.t 46)⟩ <|
   .take ⟨(some 53), none, .ext 3 (.t 46)⟩ <|
   .free <|
   .one ⟨none, none, .store 4 (.t 13) (.t 50)⟩ <|
   .take ⟨(some 14), none, .mov (.t 51)⟩ <|
   .take ⟨(some 15), none, .mov (.t 52)⟩ <|
   .take ⟨(some 16), none, .mov (.t 53)⟩ <|
   .leaf)) <|
 .seq (.reg [1, 2, 3, 4, 5, 6, 7, 8, 10, 12, 14, 15, 16, 20] [⟨(some 55), none, .load true 4 (.t 13)⟩,
    ⟨(some 56), none, .build [.g (.str []), .g (.int .i64 0), .g (.int .i64 0), .g (.int .i64 0), .g (.str [])] [(0, 1, (.c (.g (.str [97])))), (1, 1, (.c (.g (.int .i64 5)))), (2, 1, (.c (.g (.int .i64 1))))]⟩,
    ⟨(some 57), none, .bslice 5 1 [.str [], .int .i64 0, .int .i64 0, .int .i64 0, .str []] [(0, 5, (.t 56))]⟩,
    ⟨(some 58), none, .build [.g (.nsl), .g (.nsl), .g (.nsl)] [(0, 1, (.t 57))]⟩,
    ⟨(some 59), none, .call (.c (.g (.fn 24))) [(.t 55), (.t 58)]⟩,
    ⟨(some 54), none, .mov (.t 59)⟩,
    ⟨(some 60), none, .ext 0 (.t 54)⟩,
    ⟨(some 61), none, .ext 1 (.t 54)⟩,
    ⟨(some 62), none, .ext 2 (.t 54)⟩,
    ⟨(some 63), none, .ext 3 (.t 54)⟩,
    ⟨(some 17), none, .alloc [.z (.int .i64 0), .z (.int .i64 0), .s 6, .s 8]⟩,
    ⟨none, none, .store 4 (.t 17) (.t 60)⟩,
    ⟨(some 18), none, .mov (.t 61)⟩,
    ⟨(some 19), none, .mov (.t 62)⟩,
    ⟨(some 20), none, .mov (.t 63)⟩]) <|
 .seq (.reg [1, 2, 3, 4, 5, 6, 7, 8, 10, 12, 14, 15, 16, 20, 21] [⟨(some 64), none, .load true 4 (.t 1)⟩,
    ⟨(some 65), none, .call (.c (.g (.fn 42))) [(.t 64)]⟩,
    ⟨(some 21), none, .mov (.t 65)⟩]) <|
 .seq (.reg [0] [⟨(some 66), none, .mov (.t 2)⟩,
    ⟨(some 67), none, .mov (.t 66)⟩,
    ⟨(some 68), (some (67, true)), .mov (.t 3)⟩,
    ⟨(some 69), (some (67, true)), .len (.t 68)⟩,
    ⟨(some 70), (some (67, true)), .bin .eql (.t 69) (.c (.g (.int .i64 1)))⟩,
    ⟨(some 71), none, .pick (.t 67) (.t 70) (.c (.g (.bool false)))⟩,
    ⟨(some 72), none, .mov (.t 71)⟩,
    ⟨(some 73), (some (72, true)), .mov (.t 4)⟩,
    ⟨(some 74), (some (72, true)), .bin .eql (.t 73) (.c (.g (.int .i64 0)))⟩,
    ⟨(some 75), none, .pick (.t 72) (.t 74) (.c (.g (.bool false)))⟩,
    ⟨(some 76), none, .mov (.t 75)⟩,
    ⟨(some 77), (some (76, true)), .mov (.t 6)⟩,
    ⟨(some 78), (some (76, true)), .un .not (.t 77)⟩,
    ⟨(some 79), none, .pick (.t 76) (.t 78) (.c (.g (.bool false)))⟩,
    ⟨(some 80), none, .mov (.t 79)⟩,
    ⟨(some 81), (some (80, true)), .mov (.t 7)⟩,
    ⟨(some 82), (some (80, true)), .len (.t 81)⟩,
    ⟨(some 83), (some (80, true)), .bin .eql (.t 82) (.c (.g (.int .i64 0)))⟩,
    ⟨(some 84), none, .pick (.t 80) (.t 83) (.c (.g (.bool false)))⟩,
    ⟨(some 85), none, .mov (.t 84)⟩,
    ⟨(some 86), (some (85, true)), .mov (.t 8)⟩,
    ⟨(some 87), (some (85, true)), .bin .eql (.t 86) (.c (.g (.int .i64 0)))⟩,
    ⟨(some 88), none, .pick (.t 85) (.t 87) (.c (.g (.bool false)))⟩,
    ⟨(some 89), none, .mov (.t 88)⟩,
    ⟨(some 90), (some (89, true)), .load true 4 (.t 1)⟩,
    ⟨(some 91), (some (89, true)), .load true 4 (.t 5)⟩,
    ⟨(some 92), (some (89, true)), .call (.c (.g (.fn 26))) [(.t 90), (.t 91)]⟩,
    ⟨(some 93), none, .pick (.t 89) (.t 92) (.c (.g (.bool false)))⟩,
    ⟨(some 94), none, .mov (.t 93)⟩,
    ⟨(some 95), (some (94, true)), .mov (.t 10)⟩,
    ⟨(some 96), (some (94, true)), .un .not (.t 95)⟩,
    ⟨(some 97), none, .pick (.t 94) (.t 96) (.c (.g (.bool false)))⟩,
    ⟨(some 98), none, .mov (.t 97)⟩,
    ⟨(some 99), (some (98, true)), .mov (.t 12)⟩,
    ⟨(some 100), (some (98, true)), .bin .eql (.t 99) (.c (.g (.int .i64 0)))⟩,
    ⟨(some 101), none, .pick (.t 98) (.t 100) (.c (.g (.bool false)))⟩,
    ⟨(some 102), none, .mov (.t 101)⟩,
    ⟨(some 103), (some (102, true)), .mov (.t 14)⟩,
    ⟨(some 104), none, .pick (.t 102) (.t 103) (.c (.g (.bool false)))⟩,
    ⟨(some 105), none, .mov (.t 104)⟩,
    ⟨(some 106), (some (105, true)), .mov (.t 16)⟩,
    ⟨(some 107), (some (105, true)), .bin .eql (.t 106) (.c (.g (.int .i64 0)))⟩,
    ⟨(some 108), none, .pick (.t 105) (.t 107) (.c (.g (.bool false)))⟩,
    ⟨(some 109), none, .mov (.t 108)⟩,
    ⟨(some 110), (some (109, true)), .mov (.t 15)⟩,
    ⟨(some 111), (some (109, true)), .len (.t 110)⟩,
    ⟨(some 112), (some (109, true)), .bin .eql (.t 111) (.c (.g (.int .i64 1)))⟩,
    ⟨(some 113), none, .pick (.t 109) (.t 112) (.c (.g (.bool false)))⟩,
    ⟨(some 114), none, .mov (.t 113)⟩,
    ⟨(some 115), (some (114, true)), .mov (.t 15)⟩,
    ⟨(some 116), (some (114, true)), .iaddr 8 (.t 115) (.c (.g (.int .i64 0)))⟩,
    ⟨(some 117), (some (114, true)), .faddr 1 (.t 116)⟩,
    ⟨(some 118), (some (114, true)), .load false 1 (.t 117)⟩,
    ⟨(some 119), none, .pick (.t 114) (.t 118) (.c (.g (.bool false)))⟩,
    ⟨(some 120), none, .mov (.t 119)⟩,
    ⟨(some 121), (some (120, true)), .mov (.t 20)⟩,
    ⟨(some 122), (some (120, true)), .bin .eql (.t 121) (.c (.g (.int .i64 1)))⟩,
    ⟨(some 123), none, .pick (.t 120) (.t 122) (.c (.g (.bool false)))⟩,
    ⟨(some 124), none, .mov (.t 123)⟩,
    ⟨(some 125), (some (124, true)), .mov (.t 21)⟩,
    ⟨(some 126), (some (124, true)), .build [.g (.str []), .g (.int .i64 0), .g (.int .i64 0), .g (.int .i64 0), .g (.str [])] [(0, 1, (.c (.g (.str [97])))), (1, 1, (.c (.g (.int .i64 4)))), (2, 1, (.c (.g (.int .i64 3)))), (4, 1, (.c (.g (.str [117]))))]⟩,
    ⟨(some 127), (some (124, true)), .call (.c (.g (.fn 17))) [(.t 125), (.t 126)]⟩,
    ⟨(some 128), none, .pick (.t 124) (.t 127) (.c (.g (.bool false)))⟩,
    ⟨(some 129), none, .mov (.t 128)⟩,
    ⟨(some 130), (some (129, true)), .mov (.t 21)⟩,
    ⟨(some 131), (some (129, true)), .build [.g (.str []), .g (.int .i64 0), .g (.int .i64 0), .g (.int .i64 0), .g (.str [])] [(0, 1, (.c (.g (.str [97])))), (1, 1, (.c (.g (.int .i64 3)))), (2, 1, (.c (.g (.int .i64 2)))), (3, 1, (.c (.g (.int .i64 1))))]⟩,
    ⟨(some 132), (some (129, true)), .call (.c (.g (.fn 17))) [(.t 130), (.t 131)]⟩,
    ⟨(some 133), (some (129, true)), .un .not (.t 132)⟩,
    ⟨(some 134), none, .pick (.t 129) (.t 133) (.c (.g (.bool false)))⟩,
    ⟨(some 135), none, .mov (.t 134)⟩,
    ⟨(some 136), (some (135, true)), .call (.c (.g (.fn 32))) [(.c (.g (.str [97])))]⟩,
    ⟨(some 137), (some (135, true)), .call (.c (.g (.fn 17))) [(.c (.g (.nsl))), (.t 136)]⟩,
    ⟨(some 138), none, .pick (.t 135) (.t 137) (.c (.g (.bool false)))⟩,
    ⟨(some 139), none, .mov (.t 138)⟩,
    ⟨(some 140), (some (139, true)), .mov (.t 21)⟩,
    ⟨(some 141), (some (139, true)), .call (.c (.g (.fn 34))) [(.c (.g (.str [97]))), (.c (.g (.int .i64 1)))]⟩,
    ⟨(some 142), (some (139, true)), .call (.c (.g (.fn 32))) [(.c (.g (.str [97])))]⟩,
    ⟨(some 143), (some (139, true)), .bslice 5 2 [.str [], .int .i64 0, .int .i64 0, .int .i64 0, .str []] [(0, 5, (.t 141)), (5, 5, (.t 142))]⟩,
    ⟨(some 144), (some (139, true)), .call (.c (.g (.fn 19))) [(.t 140), (.t 143)]⟩,
    ⟨(some 145), (some (139, true)), .un .not (.t 144)⟩,
    ⟨(some 146), none, .pick (.t 139) (.t 145) (.c (.g (.bool false)))⟩,
    ⟨(some 0), none, .mov (.t 146)⟩]) <|
 .ret⟩
def h16 : List (List Nat) := [[], [1, 2, 3, 4], [1, 2, 3, 4, 5, 6, 7, 8], [], [1, 2, 3, 4, 5, 6, 7, 8, 9, 10, 12], [], [1, 2, 3, 4, 5, 6, 7, 8, 10, 12, 13, 14, 15, 16], [], [1, 2, 3, 4, 5, 6, 7, 8, 10, 12, 14, 15, 16, 20], [1, 2, 3, 4, 5, 6, 7, 8, 10, 12, 14, 15, 16, 20, 21], [0]]
theorem c16 : cFunc Try.prog 16 false h16 = some F16 := by kernel_rfl

/-- baton/txn.Holds -/
def F17 : IFunc := ⟨2, 32, [.tmp 4], false,
 .seq (.reg [0, 3] [⟨(some 3), none, .box (.t 1)⟩,
    ⟨(some 4), none, .mov (.c (.g (.bool false)))⟩]) <|
 .seq (.seq (.reg [0, 3, 10] [⟨(some 8), none, .load true 5 (.t 3)⟩,
     ⟨(some 9), none, .call (.c (.g (.fn 52))) [(.t 8)]⟩,
     ⟨(some 10), none, .un .not (.t 9)⟩]) <|
  .cond [0, 3] (.t 10)
   (.seq (.reg [4] [⟨(some 4), none, .mov (.c (.g (.bool false)))⟩]) <|
    .ret)
   (.skip)) <|
 .seq (.reg [3, 5] [⟨(some 12), none, .mov (.t 0)⟩,
    ⟨(some 13), none, .faddr 0 (.t 3)⟩,
    ⟨(some 14), none, .load false 1 (.t 13)⟩,
    ⟨(some 15), none, .call (.c (.g (.fn 53))) [(.t 12), (.t 14)]⟩,
    ⟨(some 11), none, .mov (.t 15)⟩,
    ⟨(some 16), none, .ext 0 (.t 11)⟩,
    ⟨(some 17), none, .ext 1 (.t 11)⟩,
    ⟨(some 5), none, .alloc [.z (.str []), .z (.str []), .z (.int .i64 0), .z (.int .i64 0), .z (.int .i64 0), .z (.int .i64 0)]⟩,
    ⟨none, none, .store 6 (.t 5) (.t 16)⟩,
    ⟨(some 6), none, .mov (.t 17)⟩]) <|
 .seq (.reg [3, 5, 7] [⟨(some 18), none, .build [.g (.int .i64 0), .g (.int .i64 0), .g (.int .i64 0), .g (.int .i64 0)] [(1, 1, (.c (.g (.int .i64 0)))), (2, 1, (.c (.g (.int .i64 (-1))))), (3, 1, (.c (.g (.int .i64 1))))]⟩,
    ⟨(some 7), none, .alloc [.z (.int .i64 0), .z (.int .i64 0), .z (.int .i64 0), .z (.int .i64 0)]⟩,
    ⟨none, none, .store 4 (.t 7) (.t 18)⟩]) <|
 .seq (.drw [4] 0 <|
  .take ⟨(some 20), none, .faddr 1 (.t 3)⟩ <|
  .take ⟨(some 21), none, .load false 1 (.t 20)⟩ <|
  .take ⟨(some 23), none, .load true 5 (.t 3)⟩ <|
  .take ⟨(some 24), none, .load true 6 (.t 5)⟩ <|
  .take ⟨(some 25), none, .build [.g (.str []), .g (.int .i64 0), .g (.int .i64 0), .g (.int .i64 0), .g (.str []), .g (.str []), .g (.str []), .g (.int .i64 0), .g (.int .i64 0), .g (.int .i64 0), .g (.int .i64 0)] [(0, 5, (.t 23)), (5, 6, (.t 24))]⟩ <|
  .take ⟨(some 27), none, .faddr 2 (.t 3)⟩ <|
  .take ⟨(some 28), none, .load false 1 (.t 27)⟩ <|
  .take ⟨(some 29), none, .iaddrA 4 1 (.t 7) (.t 28)⟩ <|
  .take ⟨(some 30), none, .load false 1 (.t 29)⟩ <|
  .one ⟨(some 19), none, .call (.c (.g (.fn 54))) []⟩ <|
  .take ⟨(some 22), none, .indexA false 5 1 (.t 19) (.t 21)⟩ <|
  .one ⟨(some 26), none, .call (.t 22) [(.t 25)]⟩ <|
  .take ⟨(some 31), none, .bin .eql (.t 26) (.t 30)⟩ <|
  .free <|
  .take ⟨(some 4), none, .mov (.t 31)⟩ <|
  .leaf) <|
 .ret⟩
def h17 : List (List Nat) := [[0, 3], [0, 3, 10], [0, 3], [4], [3, 5], [3, 5, 7], [4], []]
theorem c17 : cFunc Try.prog 17 false h17 = some F17 := by kernel_rfl

/-- baton/batonref06.Holds -/
def F18 : IFunc := ⟨2, 79, [.tmp 4], false,
 .seq (.reg [0, 3] [⟨(some 3), none, .box (.t 1)⟩,
    ⟨(some 4), none, .mov (.c (.g (.bool false)))⟩]) <|
 .seq (.reg [3, 5] [⟨(some 8), none, .mov (.t 0)⟩,
    ⟨(some 9), none, .faddr 0 (.t 3)⟩,
    ⟨(some 10), none, .load false 1 (.t 9)⟩,
    ⟨(some 11), none, .call (.c (.g (.fn 49))) [(.t 8), (.t 10)]⟩,
    ⟨(some 7), none, .mov (.t 11)⟩,
    ⟨(some 12), none, .ext 0 (.t 7)⟩,
    ⟨(some 13), none, .ext 1 (.t 7)⟩,
    ⟨(some 5), none, .alloc [.z (.str []), .z (.str []), .z (.int .i64 0), .z (.int .i64 0), .z (.int .i64 0), .z (.int .i64 0)]⟩,
    ⟨none, none, .store 6 (.t 5) (.t 12)⟩,
    ⟨(some 6), none, .mov (.t 13)⟩]) <|
 .seq (.seq (.reg [3, 5, 15] [⟨(some 14), none, .faddr 1 (.t 3)⟩,
     ⟨(some 15), none, .load false 1 (.t 14)⟩]) <|
  .block [] 0 <|
  .seq (.reg [3, 5, 15, 16] [⟨(some 17), none, .bin .eql (.t 15) (.c (.g (.int .i64 1)))⟩,
     ⟨(some 16), none, .mov (.t 17)⟩]) <|
  .cond [] (.t 16)
   (.seq (.reg [4] [⟨(some 18), none, .faddr 2 (.t 5)⟩,
       ⟨(some 19), none, .load false 1 (.t 18)⟩,
       ⟨(some 20), none, .faddr 2 (.t 3)⟩,
       ⟨(some 21), none, .load false 1 (.t 20)⟩,
       ⟨(some 22), none, .faddr 3 (.t 3)⟩,
       ⟨(some 23), none, .load false 1 (.t 22)⟩,
       ⟨(some 24), none, .call (.c (.g (.fn 55))) [(.t 19), (.t 21), (.t 23)]⟩,
       ⟨(some 4), none, .mov (.t 24)⟩]) <|
    .ret)
   (.seq (.reg [3, 5, 15, 25] [⟨(some 26), none, .bin .eql (.t 15) (.c (.g (.int .i64 2)))⟩,
       ⟨(some 25), none, .mov (.t 26)⟩]) <|
    .cond [] (.t 25)
     (.seq (.reg [4] [⟨(some 27), none, .faddr 3 (.t 5)⟩,
         ⟨(some 28), none, .load false 1 (.t 27)⟩,
         ⟨(some 29), none, .faddr 2 (.t 3)⟩,
         ⟨(some 30), none, .load false 1 (.t 29)⟩,
         ⟨(some 31), none, .faddr 3 (.t 3)⟩,
         ⟨(some 32), none, .load false 1 (.t 31)⟩,
         ⟨(some 33), none, .call (.c (.g (.fn 55))) [(.t 28), (.t 30), (.t 32)]⟩,
         ⟨(some 4), none, .mov (.t 33)⟩]) <|
      .ret)
     (.seq (.reg [3, 5, 15, 34] [⟨(some 35), none, .bin .eql (.t 15) (.c (.g (.int .i64 3)))⟩,
         ⟨(some 34), none, .mov (.t 35)⟩]) <|
      .cond [] (.t 34)
       (.seq (.reg [4] [⟨(some 36), none, .faddr 4 (.t 5)⟩,
           ⟨(some 37), none, .load false 1 (.t 36)⟩,
           ⟨(some 38), none, .faddr 2 (.t 3)⟩,
           ⟨(some 39), none, .load false 1 (.t 38)⟩,
           ⟨(some 40), none, .faddr 3 (.t 3)⟩,
           ⟨(some 41), none, .load false 1 (.t 40)⟩,
           ⟨(some 42), none, .call (.c (.g (.fn 55))) [(.t 37), (.t 39), (.t 41)]⟩,
           ⟨(some 4), none, .mov (.t 42)⟩]) <|
        .ret)
       (.seq (.reg [3, 5, 43] [⟨(some 44), none, .bin .eql (.t 15) (.c (.g (.int .i64 4)))⟩,
           ⟨(some 43), none, .mov (.t 44)⟩]) <|
        .cond [] (.t 43)
         (.seq (.reg [4] [⟨(some 45), none, .faddr 2 (.t 3)⟩,
             ⟨(some 46), none, .load false 1 (.t 45)⟩,
             ⟨(some 47), none, .bin .eql (.t 46) (.c (.g (.int .i64 1)))⟩,
             ⟨(some 48), none, .mov (.t 47)⟩,
             ⟨(some 49), (some (48, true)), .faddr 1 (.t 5)⟩,
             ⟨(some 50), (some (48, true)), .load false 1 (.t 49)⟩,
             ⟨(some 51), (some (48, true)), .faddr 4 (.t 3)⟩,
             ⟨(some 52), (some (48, true)), .load false 1 (.t 51)⟩,
             ⟨(some 53), (some (48, true)), .bin .eql (.t 50) (.t 52)⟩,
             ⟨(some 54), none, .pick (.t 48) (.t 53) (.c (.g (.bool false)))⟩,
             ⟨(some 55), none, .mov (.t 54)⟩,
             ⟨(some 56), (some (55, false)), .faddr 2 (.t 3)⟩,
             ⟨(some 57), (some (55, false)), .load false 1 (.t 56)⟩,
             ⟨(some 58), (some (55, false)), .bin .eql (.t 57) (.c (.g (.int .i64 2)))⟩,
             ⟨(some 59), (some (55, false)), .mov (.t 58)⟩,
             ⟨(some 60), (some (59, true)), .faddr 1 (.t 5)⟩,
             ⟨(some 61), (some (59, true)), .load false 1 (.t 60)⟩,
             ⟨(some 62), (some (59, true)), .faddr 4 (.t 3)⟩,
             ⟨(some 63), (some (59, true)), .load false 1 (.t 62)⟩,
             ⟨(some 64), (some (59, true)), .bin .lss (.t 61) (.t 63)⟩,
             ⟨(some 65), (some (55, false)), .pick (.t 59) (.t 64) (.c (.g (.bool false)))⟩,
             ⟨(some 66), none, .pick (.t 55) (.c (.g (.bool true))) (.t 65)⟩,
             ⟨(some 67), none, .mov (.t 66)⟩,
             ⟨(some 68), (some (67, false)), .faddr 2 (.t 3)⟩,
             ⟨(some 69), (some (67, false)), .load false 1 (.t 68)⟩,
             ⟨(some 70), (some (67, false)), .bin .eql (.t 69) (.c (.g (.int .i64 3)))⟩,
             ⟨(some 71), (some (67, false)), .mov (.t 70)⟩,
             ⟨(some 72), (some (71, true)), .faddr 1 (.t 5)⟩,
             ⟨(some 73), (some (71, true)), .load false 1 (.t 72)⟩,
             ⟨(some 74), (some (71, true)), .faddr 4 (.t 3)⟩,
             ⟨(some 75), (some (71, true)), .load false 1 (.t 74)⟩,
             ⟨(some 76), (some (71, true)), .bin .gtr (.t 73) (.t 75)⟩,
             ⟨(some 77), (some (67, false)), .pick (.t 71) (.t 76) (.c (.g (.bool false)))⟩,
             ⟨(some 78), none, .pick (.t 67) (.c (.g (.bool true))) (.t 77)⟩,
             ⟨(some 4), none, .mov (.t 78)⟩]) <|
          .ret)
         (.skip))))) <|
 .seq (.reg [4] [⟨(some 4), none, .mov (.c (.g (.bool false)))⟩]) <|
 .ret⟩
def h18 : List (List Nat) := [[0, 3], [3, 5], [3, 5, 15], [], [3, 5, 15, 16], [], [4], [3, 5, 15, 25], [], [4], [3, 5, 15, 34], [], [4], [3, 5, 43], [], [4], [4]]
theorem c18 : cFunc Try.prog 18 false h18 = some F18 := by kernel_rfl

/-- baton/txn.All -/
def L19_0 : IC :=
 .seq (.reg [0, 7, 8, 9, 10] [⟨(some 10), none, .bin .lss (.t 9) (.t 8)⟩]) <|
 .seq (.cond [0, 7, 8, 9] (.t 10)
   (.skip)
   (.exit 0)) <|
 .seq (.block [0, 7, 8, 9] 1 <|
  .seq (.reg [0, 6, 7, 8, 9] [⟨(some 11), none, .iaddr 5 (.t 7) (.t 9)⟩,
     ⟨(some 12), none, .load true 5 (.t 11)⟩,
     ⟨(some 6), none, .alloc [.z (.str []), .z (.int .i64 0), .z (.int .i64 0), .z (.int .i64 0), .z (.str [])]⟩,
     ⟨none, none, .store 5 (.t 6) (.t 12)⟩]) <|
  .seq (.reg [0, 7, 8, 9, 16] [⟨(some 13), none, .mov (.t 0)⟩,
     ⟨(some 14), none, .load true 5 (.t 6)⟩,
     ⟨(some 15), none, .call (.c (.g (.fn 17))) [(.t 13), (.t 14)]⟩,
     ⟨(some 16), none, .un .not (.t 15)⟩]) <|
  .cond [0, 7, 8, 9] (.t 16)
   (.seq (.reg [4] [⟨(some 4), none, .mov (.c (.g (.bool false)))⟩]) <|
    .ret)
   (.skip)) <|
 .reg [0, 7, 8, 9] [⟨(some 17), none, .bin .add (.t 9) (.c (.g (.int .i64 1)))⟩,
   ⟨(some 9), none, .mov (.t 17)⟩]
def F19 : IFunc := ⟨2, 18, [.tmp 4], false,
 .seq (.reg [0, 1] [⟨(some 4), none, .mov (.c (.g (.bool false)))⟩]) <|
 .seq (.seq (.reg [0, 7, 8, 9] [⟨(some 7), none, .mov (.t 1)⟩,
     ⟨(some 8), none, .len (.t 7)⟩,
     ⟨(some 9), none, .mov (.c (.g (.int .i64 0)))⟩]) <|
  .block [] 0 <|
  .loop [0, 7, 8, 9] [] L19_0) <|
 .seq (.reg [4] [⟨(some 4), none, .mov (.c (.g (.bool true)))⟩]) <|
 .ret⟩
def h19 : List (List Nat) := [[0, 1], [0, 7, 8, 9], [], [0, 7, 8, 9], [0, 7, 8, 9, 10], [0, 7, 8, 9], [0, 7, 8, 9], [0, 6, 7, 8, 9], [0, 7, 8, 9, 16], [0, 7, 8, 9], [4], [0, 7, 8, 9], [4]]
theorem c19 : cFunc Try.prog 19 false h19 = some F19 := by kernel_rfl

/-- baton/batonref06.All -/
def L20_0 : IC :=
 .seq (.seq (.reg [0, 1, 5, 9] [⟨(some 6), none, .mov (.t 5)⟩,
     ⟨(some 7), none, .mov (.t 1)⟩,
     ⟨(some 8), none, .len (.t 7)⟩,
     ⟨(some 9), none, .bin .lss (.t 6) (.t 8)⟩]) <|
  .cond [0, 1, 5] (.t 9)
   (.skip)
   (.exit 0)) <|
 .seq (.block [0, 1, 5] 1 <|
  .seq (.reg [0, 1, 5, 18] [⟨(some 12), none, .mov (.t 0)⟩,
     ⟨(some 13), none, .mov (.t 1)⟩,
     ⟨(some 14), none, .mov (.t 5)⟩,
     ⟨(some 15), none, .iaddr 5 (.t 13) (.t 14)⟩,
     ⟨(some 16), none, .load true 5 (.t 15)⟩,
     ⟨(some 17), none, .call (.c (.g (.fn 18))) [(.t 12), (.t 16)]⟩,
     ⟨(some 18), none, .un .not (.t 17)⟩]) <|
  .cond [0, 1, 5] (.t 18)
   (.seq (.reg [4] [⟨(some 4), none, .mov (.c (.g (.bool false)))⟩]) <|
    .ret)
   (.skip)) <|
 .reg [0, 1, 5] [⟨(some 10), none, .mov (.t 5)⟩,
   ⟨(some 11), none, .bin .add (.t 10) (.c (.g (.int .i64 1)))⟩,
   ⟨(some 5), none, .mov (.t 11)⟩]
def F20 : IFunc := ⟨2, 19, [.tmp 4], false,
 .seq (.reg [0, 1] [⟨(some 4), none, .mov (.c (.g (.bool false)))⟩]) <|
 .seq (.seq (.reg [0, 1, 5] [⟨(some 5), none, .mov (.c (.g (.int .i64 0)))⟩]) <|
  .block [] 0 <|
  .loop [0, 1, 5] [] L20_0) <|
 .seq (.reg [4] [⟨(some 4), none, .mov (.c (.g (.bool true)))⟩]) <|
 .ret⟩
def h20 : List (List Nat) := [[0, 1], [0, 1, 5], [], [0, 1, 5], [0, 1, 5, 9], [0, 1, 5], [0, 1, 5], [0, 1, 5, 18], [0, 1, 5], [4], [0, 1, 5], [4]]
theorem c20 : cFunc Try.prog 20 false h20 = some F20 := by kernel_rfl

/-- baton/batonref05.Few -/
def F21 : IFunc := ⟨1, 11, [.tmp 2], false,
 .seq (.reg [1] [⟨(some 1), none, .box (.t 0)⟩,
    ⟨(some 2), none, .mov (.c (.g (.bool false)))⟩]) <|
 .seq (.reg [2] [⟨(some 3), none, .faddr 2 (.t 1)⟩,
    ⟨(some 4), none, .load false 1 (.t 3)⟩,
    ⟨(some 5), none, .call (.c (.g (.fn 15))) [(.t 4), (.c (.g (.int .i64 40)))]⟩,
    ⟨(some 6), none, .mov (.t 5)⟩,
    ⟨(some 7), (some (6, true)), .faddr 3 (.t 1)⟩,
    ⟨(some 8), (some (6, true)), .load false 1 (.t 7)⟩,
    ⟨(some 9), (some (6, true)), .call (.c (.g (.fn 56))) [(.t 8), (.c (.g (.int .i64 70)))]⟩,
    ⟨(some 10), none, .pick (.t 6) (.t 9) (.c (.g (.bool false)))⟩,
    ⟨(some 2), none, .mov (.t 10)⟩]) <|
 .ret⟩
def h21 : List (List Nat) := [[1], [2]]
theorem c21 : cFunc Try.prog 21 false h21 = some F21 := by kernel_rfl

/-- baton/batonref05.May -/
def L22_0 : IC :=
 .seq (.seq (.reg [1, 3, 45] [⟨(some 41), none, .mov (.t 3)⟩,
     ⟨(some 42), none, .faddr 2 (.t 1)⟩,
     ⟨(some 43), none, .load false 1 (.t 42)⟩,
     ⟨(some 44), none, .len (.t 43)⟩,
     ⟨(some 45), none, .bin .lss (.t 41) (.t 44)⟩]) <|
  .cond [1, 3] (.t 45)
   (.skip)
   (.exit 0)) <|
 .seq (.block [1, 3] 1 <|
  .seq (.drw [1, 3, 56] 0 <|
   .take ⟨(some 48), none, .faddr 2 (.t 1)⟩ <|
   .take ⟨(some 49), none, .load false 1 (.t 48)⟩ <|
   .take ⟨(some 50), none, .mov (.t 3)⟩ <|
   .take ⟨(some 51), none, .iaddr 6 (.t 49) (.t 50)⟩ <|
   .take ⟨(some 52), none, .faddr 3 (.t 51)⟩ <|
   .take ⟨(some 53), none, .load false 1 (.t 52)⟩ <|
   .take ⟨(some 54), none, .faddr 1 (.t 1)⟩ <|
   .take ⟨(some 55), none, .load false 1 (.t 54)⟩ <|
   .take ⟨(some 56), none, .bin .gtr (.t 53) (.t 55)⟩ <|
   .leaf) <|
  .cond [1, 3] (.t 56)
   (.seq (.reg [2] [⟨(some 2), none, .mov (.c (.g (.bool false)))⟩]) <|
    .ret)
   (.skip)) <|
 .reg [1, 3] [⟨(some 46), none, .mov (.t 3)⟩,
   ⟨(some 47), none, .bin .add (.t 46) (.c (.g (.int .i64 1)))⟩,
   ⟨(some 3), none, .mov (.t 47)⟩]
def L22_1 : IC :=
 .seq (.seq (.reg [1, 4, 5, 6, 65] [⟨(some 61), none, .mov (.t 6)⟩,
     ⟨(some 62), none, .faddr 3 (.t 1)⟩,
     ⟨(some 63), none, .load false 1 (.t 62)⟩,
     ⟨(some 64), none, .len (.t 63)⟩,
     ⟨(some 65), none, .bin .lss (.t 61) (.t 64)⟩]) <|
  .cond [1, 4, 5, 6] (.t 65)
   (.skip)
   (.exit 2)) <|
 .seq (.block [1, 4, 5, 6] 3 <|
  .seq (.reg [1, 4, 5, 6, 7] [⟨(some 68), none, .faddr 3 (.t 1)⟩,
     ⟨(some 69), none, .load false 1 (.t 68)⟩,
     ⟨(some 70), none, .mov (.t 6)⟩,
     ⟨(some 71), none, .iaddr 8 (.t 69) (.t 70)⟩,
     ⟨(some 72), none, .load true 8 (.t 71)⟩,
     ⟨(some 7), none, .alloc [.z (.int .i64 0), .z (.bool false), .z (.str []), .z (.str []), .z (.int .i64 0), .z (.int .i64 0), .z (.int .i64 0), .z (.int .i64 0)]⟩,
     ⟨none, none, .store 8 (.t 7) (.t 72)⟩]) <|
  .seq (.seq (.reg [1, 4, 6, 7, 96] [⟨(some 73), none, .faddr 0 (.t 7)⟩,
      ⟨(some 74), none, .load false 1 (.t 73)⟩,
      ⟨(some 75), none, .faddr 1 (.t 1)⟩,
      ⟨(some 76), none, .load false 1 (.t 75)⟩,
      ⟨(some 77), none, .bin .leq (.t 74) (.t 76)⟩,
      ⟨(some 78), none, .mov (.t 77)⟩,
      ⟨(some 79), (some (78, false)), .faddr 0 (.t 7)⟩,
      ⟨(some 80), (some (78, false)), .load false 1 (.t 79)⟩,
      ⟨(some 81), (some (78, false)), .mov (.t 5)⟩,
      ⟨(some 82), (some (78, false)), .bin .lss (.t 80) (.t 81)⟩,
      ⟨(some 83), none, .pick (.t 78) (.c (.g (.bool true))) (.t 82)⟩,
      ⟨(some 84), none, .mov (.t 83)⟩,
      ⟨(some 85), (some (84, false)), .faddr 0 (.t 7)⟩,
      ⟨(some 86), (some (84, false)), .load false 1 (.t 85)⟩,
      ⟨(some 87), (some (84, false)), .faddr 0 (.t 1)⟩,
      ⟨(some 88), (some (84, false)), .load false 1 (.t 87)⟩,
      ⟨(some 89), (some (84, false)), .bin .gtr (.t 86) (.t 88)⟩,
      ⟨(some 90), none, .pick (.t 84) (.c (.g (.bool true))) (.t 89)⟩,
      ⟨(some 91), none, .mov (.t 90)⟩,
      ⟨(some 92), (some (91, false)), .mov (.t 4)⟩,
      ⟨(some 93), (some (91, false)), .load true 8 (.t 7)⟩,
      ⟨(some 94), (some (91, false)), .call (.c (.g (.fn 58))) [(.t 92), (.t 93)]⟩,
      ⟨(some 95), (some (91, false)), .un .not (.t 94)⟩,
      ⟨(some 96), none, .pick (.t 91) (.c (.g (.bool true))) (.t 95)⟩]) <|
   .cond [1, 4, 6, 7] (.t 96)
    (.seq (.reg [2] [⟨(some 2), none, .mov (.c (.g (.bool false)))⟩]) <|
     .ret)
    (.skip)) <|
  .seq (.drw [1, 4, 6, 7] 0 <|
   .take ⟨(some 97), none, .mov (.t 4)⟩ <|
   .take ⟨(some 98), none, .faddr 3 (.t 1)⟩ <|
   .take ⟨(some 99), none, .load false 1 (.t 98)⟩ <|
   .take ⟨(some 100), none, .mov (.t 6)⟩ <|
   .take ⟨(some 101), none, .mov (.t 6)⟩ <|
   .take ⟨(some 102), none, .bin .add (.t 101) (.c (.g (.int .i64 1)))⟩ <|
   .take ⟨(some 103), none, .slc 8 (.t 99) (some (.t 100)) (some (.t 102))⟩ <|
   .take ⟨(some 104), none, .faddr 0 (.t 7)⟩ <|
   .take ⟨(some 105), none, .load false 1 (.t 104)⟩ <|
   .one ⟨(some 106), none, .call (.c (.g (.fn 59))) [(.t 97), (.t 103), (.t 105)]⟩ <|
   .free <|
   .take ⟨(some 4), none, .mov (.t 106)⟩ <|
   .leaf) <|
  .seq (.reg [1, 4, 5, 6] [⟨(some 107), none, .faddr 0 (.t 7)⟩,
     ⟨(some 108), none, .load false 1 (.t 107)⟩,
     ⟨(some 5), none, .mov (.t 108)⟩]) <|
  .seq (.reg [1, 4, 5, 6, 111] [⟨(some 109), none, .mov (.t 4)⟩,
     ⟨(some 110), none, .len (.t 109)⟩,
     ⟨(some 111), none, .bin .gtr (.t 110) (.c (.g (.int .i64 30)))⟩]) <|
  .cond [1, 4, 5, 6] (.t 111)
   (.seq (.reg [2] [⟨(some 2), none, .mov (.c (.g (.bool false)))⟩]) <|
    .ret)
   (.skip)) <|
 .reg [1, 4, 5, 6] [⟨(some 66), none, .mov (.t 6)⟩,
   ⟨(some 67), none, .bin .add (.t 66) (.c (.g (.int .i64 1)))⟩,
   ⟨(some 6), none, .mov (.t 67)⟩]
def F22 : IFunc := ⟨1, 112, [.tmp 2], false,
 .seq (.reg [1] [⟨(some 1), none, .box (.t 0)⟩,
    ⟨(some 2), none, .mov (.c (.g (.bool false)))⟩]) <|
 .seq (.seq (.reg [1, 40] [⟨(some 8), none, .faddr 1 (.t 1)⟩,
     ⟨(some 9), none, .load false 1 (.t 8)⟩,
     ⟨(some 10), none, .bin .lss (.t 9) (.c (.g (.int .i64 0)))⟩,
     ⟨(some 11), none, .mov (.t 10)⟩,
     ⟨(some 12), (some (11, false)), .faddr 1 (.t 1)⟩,
     ⟨(some 13), (some (11, false)), .load false 1 (.t 12)⟩,
     ⟨(some 14), (some (11, false)), .faddr 0 (.t 1)⟩,
     ⟨(some 15), (some (11, false)), .load false 1 (.t 14)⟩,
     ⟨(some 16), (some (11, false)), .bin .gtr (.t 13) (.t 15)⟩,
     ⟨(some 17), none, .pick (.t 11) (.c (.g (.bool true))) (.t 16)⟩,
     ⟨(some 18), none, .mov (.t 17)⟩,
     ⟨(some 19), (some (18, false)), .faddr 0 (.t 1)⟩,
     ⟨(some 20), (some (18, false)), .load false 1 (.t 19)⟩,
     ⟨(some 21), (some (18, false)), .bin .gtr (.t 20) (.c (.g (.int .i64 1099511627774)))⟩,
     ⟨(some 22), none, .pick (.t 18) (.c (.g (.bool true))) (.t 21)⟩,
     ⟨(some 23), none, .mov (.t 22)⟩,
     ⟨(some 24), (some (23, false)), .faddr 2 (.t 1)⟩,
     ⟨(some 25), (some (23, false)), .load false 1 (.t 24)⟩,
     ⟨(some 26), (some (23, false)), .call (.c (.g (.fn 57))) [(.t 25)]⟩,
     ⟨(some 27), (some (23, false)), .un .not (.t 26)⟩,
     ⟨(some 28), none, .pick (.t 23) (.c (.g (.bool true))) (.t 27)⟩,
     ⟨(some 29), none, .mov (.t 28)⟩,
     ⟨(some 30), (some (29, false)), .faddr 2 (.t 1)⟩,
     ⟨(some 31), (some (29, false)), .load false 1 (.t 30)⟩,
     ⟨(some 32), (some (29, false)), .len (.t 31)⟩,
     ⟨(some 33), (some (29, false)), .bin .gtr (.t 32) (.c (.g (.int .i64 30)))⟩,
     ⟨(some 34), none, .pick (.t 29) (.c (.g (.bool true))) (.t 33)⟩,
     ⟨(some 35), none, .mov (.t 34)⟩,
     ⟨(some 36), (some (35, false)), .faddr 3 (.t 1)⟩,
     ⟨(some 37), (some (35, false)), .load false 1 (.t 36)⟩,
     ⟨(some 38), (some (35, false)), .len (.t 37)⟩,
     ⟨(some 39), (some (35, false)), .bin .gtr (.t 38) (.c (.g (.int .i64 60)))⟩,
     ⟨(some 40), none, .pick (.t 35) (.c (.g (.bool true))) (.t 39)⟩]) <|
  .cond [1] (.t 40)
   (.seq (.reg [2] [⟨(some 2), none, .mov (.c (.g (.bool false)))⟩]) <|
    .ret)
   (.skip)) <|
 .seq (.seq (.reg [1, 3] [⟨(some 3), none, .mov (.c (.g (.int .i64 0)))⟩]) <|
  .block [1] 0 <|
  .loop [1, 3] [] L22_0) <|
 .seq (.reg [1, 4] [⟨(some 57), none, .faddr 2 (.t 1)⟩,
    ⟨(some 58), none, .load false 1 (.t 57)⟩,
    ⟨(some 4), none, .mov (.t 58)⟩]) <|
 .seq (.reg [1, 4, 5] [⟨(some 59), none, .faddr 1 (.t 1)⟩,
    ⟨(some 60), none, .load false 1 (.t 59)⟩,
    ⟨(some 5), none, .mov (.t 60)⟩]) <|
 .seq (.seq (.reg [1, 4, 5, 6] [⟨(some 6), none, .mov (.c (.g (.int .i64 0)))⟩]) <|
  .block [] 2 <|
  .loop [1, 4, 5, 6] [] L22_1) <|
 .seq (.reg [2] [⟨(some 2), none, .mov (.c (.g (.bool true)))⟩]) <|
 .ret⟩
def h22 : List (List Nat) := [[1], [1, 40], [1], [2], [1, 3], [1], [1, 3], [1, 3, 45], [1, 3], [1, 3], [1, 3, 56], [], [1, 3], [2], [1, 3], [1, 4], [1, 4, 5], [1, 4, 5, 6], [], [1, 4, 5, 6], [1, 4, 5, 6, 65], [1, 4, 5, 6], [1, 4, 5, 6], [1, 4, 5, 6, 7], [1, 4, 6, 7, 96], [1, 4, 6, 7], [2], [1, 4, 6, 7], [], [1, 4, 5, 6], [1, 4, 5, 6, 111], [1, 4, 5, 6], [2], [1, 4, 5, 6], [2]]
theorem c22 : cFunc Try.prog 22 false h22 = some F22 := by kernel_rfl

/-- baton/batonref03.Short -/
def L23_0 : IC :=
 .seq (.seq (.reg [1, 3, 40] [⟨(some 35), none, .mov (.t 3)⟩,
     ⟨(some 36), none, .faddr 10 (.t 1)⟩,
     ⟨(some 37), none, .faddr 0 (.t 36)⟩,
     ⟨(some 38), none, .load false 1 (.t 37)⟩,
     ⟨(some 39), none, .len (.t 38)⟩,
     ⟨(some 40), none, .bin .lss (.t 35) (.t 39)⟩]) <|
  .cond [1, 3] (.t 40)
   (.skip)
   (.exit 0)) <|
 .seq (.block [1, 3] 1 <|
  .seq (.reg [1, 3, 62] [⟨(some 43), none, .faddr 10 (.t 1)⟩,
     ⟨(some 44), none, .faddr 0 (.t 43)⟩,
     ⟨(some 45), none, .load false 1 (.t 44)⟩,
     ⟨(some 46), none, .mov (.t 3)⟩,
     ⟨(some 47), none, .iaddr 5 (.t 45) (.t 46)⟩,
     ⟨(some 48), none, .faddr 0 (.t 47)⟩,
     ⟨(some 49), none, .load false 1 (.t 48)⟩,
     ⟨(some 50), none, .lenS (.t 49)⟩,
     ⟨(some 51), none, .bin .gtr (.t 50) (.c (.g (.int .i64 60)))⟩,
     ⟨(some 52), none, .mov (.t 51)⟩,
     ⟨(some 53), (some (52, false)), .faddr 10 (.t 1)⟩,
     ⟨(some 54), (some (52, false)), .faddr 0 (.t 53)⟩,
     ⟨(some 55), (some (52, false)), .load false 1 (.t 54)⟩,
     ⟨(some 56), (some (52, false)), .mov (.t 3)⟩,
     ⟨(some 57), (some (52, false)), .iaddr 5 (.t 55) (.t 56)⟩,
     ⟨(some 58), (some (52, false)), .faddr 4 (.t 57)⟩,
     ⟨(some 59), (some (52, false)), .load false 1 (.t 58)⟩,
     ⟨(some 60), (some (52, false)), .lenS (.t 59)⟩,
     ⟨(some 61), (some (52, false)), .bin .gtr (.t 60) (.c (.g (.int .i64 60)))⟩,
     ⟨(some 62), none, .pick (.t 52) (.c (.g (.bool true))) (.t 61)⟩]) <|
  .cond [1, 3] (.t 62)
   (.seq (.reg [2] [⟨(some 2), none, .mov (.c (.g (.bool false)))⟩]) <|
    .ret)
   (.skip)) <|
 .reg [1, 3] [⟨(some 41), none, .mov (.t 3)⟩,
   ⟨(some 42), none, .bin .add (.t 41) (.c (.g (.int .i64 1)))⟩,
   ⟨(some 3), none, .mov (.t 42)⟩]
def F23 : IFunc := ⟨1, 73, [.tmp 2], false,
 .seq (.reg [1] [⟨(some 1), none, .box (.t 0)⟩,
    ⟨(some 2), none, .mov (.c (.g (.bool false)))⟩]) <|
 .seq (.seq (.reg [1, 34] [⟨(some 4), none, .faddr 4 (.t 1)⟩,
     ⟨(some 5), none, .load false 1 (.t 4)⟩,
     ⟨(some 6), none, .lenS (.t 5)⟩,
     ⟨(some 7), none, .bin .gtr (.t 6) (.c (.g (.int .i64 60)))⟩,
     ⟨(some 8), none, .mov (.t 7)⟩,
     ⟨(some 9), (some (8, false)), .faddr 5 (.t 1)⟩,
     ⟨(some 10), (some (8, false)), .load false 1 (.t 9)⟩,
     ⟨(some 11), (some (8, false)), .lenS (.t 10)⟩,
     ⟨(some 12), (some (8, false)), .bin .gtr (.t 11) (.c (.g (.int .i64 60)))⟩,
     ⟨(some 13), none, .pick (.t 8) (.c (.g (.bool true))) (.t 12)⟩,
     ⟨(some 14), none, .mov (.t 13)⟩,
     ⟨(some 15), (some (14, false)), .faddr 10 (.t 1)⟩,
     ⟨(some 16), (some (14, false)), .faddr 0 (.t 15)⟩,
     ⟨(some 17), (some (14, false)), .load false 1 (.t 16)⟩,
     ⟨(some 18), (some (14, false)), .len (.t 17)⟩,
     ⟨(some 19), (some (14, false)), .bin .gtr (.t 18) (.c (.g (.int .i64 8)))⟩,
     ⟨(some 20), none, .pick (.t 14) (.c (.g (.bool true))) (.t 19)⟩,
     ⟨(some 21), none, .mov (.t 20)⟩,
     ⟨(some 22), (some (21, false)), .faddr 10 (.t 1)⟩,
     ⟨(some 23), (some (21, false)), .faddr 1 (.t 22)⟩,
     ⟨(some 24), (some (21, false)), .load false 1 (.t 23)⟩,
     ⟨(some 25), (some (21, false)), .len (.t 24)⟩,
     ⟨(some 26), (some (21, false)), .bin .gtr (.t 25) (.c (.g (.int .i64 8)))⟩,
     ⟨(some 27), none, .pick (.t 21) (.c (.g (.bool true))) (.t 26)⟩,
     ⟨(some 28), none, .mov (.t 27)⟩,
     ⟨(some 29), (some (28, false)), .faddr 10 (.t 1)⟩,
     ⟨(some 30), (some (28, false)), .faddr 2 (.t 29)⟩,
     ⟨(some 31), (some (28, false)), .load false 1 (.t 30)⟩,
     ⟨(some 32), (some (28, false)), .len (.t 31)⟩,
     ⟨(some 33), (some (28, false)), .bin .gtr (.t 32) (.c (.g (.int .i64 8)))⟩,
     ⟨(some 34), none, .pick (.t 28) (.c (.g (.bool true))) (.t 33)⟩]) <|
  .cond [1] (.t 34)
   (.seq (.reg [2] [⟨(some 2), none, .mov (.c (.g (.bool false)))⟩]) <|
    .ret)
   (.skip)) <|
 .seq (.seq (.reg [1, 3] [⟨(some 3), none, .mov (.c (.g (.int .i64 0)))⟩]) <|
  .block [1] 0 <|
  .loop [1, 3] [] L23_0) <|
 .seq (.reg [2] [⟨(some 63), none, .faddr 10 (.t 1)⟩,
    ⟨(some 64), none, .faddr 1 (.t 63)⟩,
    ⟨(some 65), none, .load false 1 (.t 64)⟩,
    ⟨(some 66), none, .call (.c (.g (.fn 60))) [(.t 65)]⟩,
    ⟨(some 67), none, .mov (.t 66)⟩,
    ⟨(some 68), (some (67, true)), .faddr 10 (.t 1)⟩,
    ⟨(some 69), (some (67, true)), .faddr 2 (.t 68)⟩,
    ⟨(some 70), (some (67, true)), .load false 1 (.t 69)⟩,
    ⟨(some 71), (some (67, true)), .call (.c (.g (.fn 60))) [(.t 70)]⟩,
    ⟨(some 72), none, .pick (.t 67) (.t 71) (.c (.g (.bool false)))⟩,
    ⟨(some 2), none, .mov (.t 72)⟩]) <|
 .ret⟩
def h23 : List (List Nat) := [[1], [1, 34], [1], [2], [1, 3], [1], [1, 3], [1, 3, 40], [1, 3], [1, 3], [1, 3, 62], [1, 3], [2], [1, 3], [2]]
theorem c23 : cFunc Try.prog 23 false h23 = some F23 := by kernel_rfl

/-- baton/txn.Do -/
def L24_0 : IC :=
 .seq (.reg [2, 3, 4, 28, 29, 30, 31] [⟨(some 31), none, .bin .lss (.t 30) (.t 29)⟩]) <|
 .seq (.cond [2, 3, 4, 28, 29, 30] (.t 31)
   (.skip)
   (.exit 0)) <|
 .seq (.block [2, 3, 4, 28, 29, 30] 1 <|
  .seq (.reg [2, 3, 4, 9, 28, 29, 30] [⟨(some 32), none, .iaddr 5 (.t 28) (.t 30)⟩,
     ⟨(some 33), none, .load true 5 (.t 32)⟩,
     ⟨(some 9), none, .alloc [.z (.str []), .z (.int .i64 0), .z (.int .i64 0), .z (.int .i64 0), .z (.str [])]⟩,
     ⟨none, none, .store 5 (.t 9) (.t 33)⟩]) <|
  .seq (.reg [2, 3, 4, 28, 29, 30, 36] [⟨(some 34), none, .load true 5 (.t 9)⟩,
     ⟨(some 35), none, .call (.c (.g (.fn 52))) [(.t 34)]⟩,
     ⟨(some 36), none, .un .not (.t 35)⟩]) <|
  .cond [2, 3, 4, 28, 29, 30] (.t 36)
   (.seq (.reg [4, 5, 6, 7] [⟨(some 37), none, .load true 4 (.t 2)⟩,
       ⟨none, none, .store 4 (.t 4) (.t 37)⟩,
       ⟨(some 5), none, .mov (.c (.g (.bool false)))⟩,
       ⟨(some 6), none, .nres 8⟩,
       ⟨(some 7), none, .mov (.c (.g (.int .i64 1)))⟩]) <|
    .ret)
   (.skip)) <|
 .reg [2, 3, 4, 28, 29, 30] [⟨(some 38), none, .bin .add (.t 30) (.c (.g (.int .i64 1)))⟩,
   ⟨(some 30), none, .mov (.t 38)⟩]
def F24 : IFunc := ⟨2, 64, [.cell 4 true 4, .tmp 5, .tmp 6, .tmp 7], false,
 .seq (.reg [2, 3, 4] [⟨(some 2), none, .box (.t 0)⟩,
    ⟨(some 3), none, .box (.t 1)⟩,
    ⟨(some 4), none, .alloc [.z (.int .i64 0), .z (.int .i64 0), .s 6, .s 8]⟩,
    ⟨(some 5), none, .mov (.c (.g (.bool false)))⟩,
    ⟨(some 6), none, .nres 8⟩,
    ⟨(some 7), none, .mov (.c (.g (.int .i64 0)))⟩]) <|
 .seq (.seq (.reg [2, 3, 4, 25] [⟨(some 15), none, .faddr 0 (.t 3)⟩,
     ⟨(some 16), none, .load false 1 (.t 15)⟩,
     ⟨(some 17), none, .len (.t 16)⟩,
     ⟨(some 18), none, .faddr 1 (.t 3)⟩,
     ⟨(some 19), none, .load false 1 (.t 18)⟩,
     ⟨(some 20), none, .len (.t 19)⟩,
     ⟨(some 21), none, .faddr 2 (.t 3)⟩,
     ⟨(some 22), none, .load false 1 (.t 21)⟩,
     ⟨(some 23), none, .len (.t 22)⟩,
     ⟨(some 24), none, .mx (.t 17) [(.t 20), (.t 23)]⟩,
     ⟨(some 25), none, .bin .gtr (.t 24) (.c (.g (.int .i64 4)))⟩]) <|
  .cond [2, 3, 4] (.t 25)
   (.seq (.reg [4, 5, 6, 7] [⟨(some 26), none, .load true 4 (.t 2)⟩,
       ⟨none, none, .store 4 (.t 4) (.t 26)⟩,
       ⟨(some 5), none, .mov (.c (.g (.bool false)))⟩,
       ⟨(some 6), none, .nres 8⟩,
       ⟨(some 7), none, .mov (.c (.g (.int .i64 1)))⟩]) <|
    .ret)
   (.skip)) <|
 .seq (.seq (.reg [2, 3, 4, 28, 29, 30] [⟨(some 27), none, .faddr 0 (.t 3)⟩,
     ⟨(some 28), none, .load false 1 (.t 27)⟩,
     ⟨(some 29), none, .len (.t 28)⟩,
     ⟨(some 30), none, .mov (.c (.g (.int .i64 0)))⟩]) <|
  .block [2, 3, 4] 0 <|
  .loop [2, 3, 4, 28, 29, 30] [] L24_0) <|
 .seq (.drw [2, 3, 4, 10, 11] 0 <|
  .take ⟨(some 39), none, .load true 4 (.t 2)⟩ <|
  .take ⟨(some 41), none, .faddr 0 (.t 3)⟩ <|
  .take ⟨(some 42), none, .load false 1 (.t 41)⟩ <|
  .take ⟨(some 44), none, .faddr 2 (.t 3)⟩ <|
  .take ⟨(some 45), none, .load false 1 (.t 44)⟩ <|
  .one ⟨(some 40), none, .call (.c (.g (.fn 42))) [(.t 39)]⟩ <|
  .one ⟨(some 43), none, .call (.c (.g (.fn 19))) [(.t 40), (.t 42)]⟩ <|
  .take ⟨(some 10), none, .mov (.t 43)⟩ <|
  .free <|
  .take ⟨(some 11), none, .mov (.t 45)⟩ <|
  .leaf) <|
 .seq (.seq (.reg [2, 3, 4, 10, 11, 46] [⟨(some 46), none, .mov (.t 10)⟩]) <|
  .cond [2, 4, 10, 11] (.t 46)
   (.reg [2, 4, 10, 11] [⟨(some 47), none, .faddr 1 (.t 3)⟩,
      ⟨(some 48), none, .load false 1 (.t 47)⟩,
      ⟨(some 11), none, .mov (.t 48)⟩])
   (.skip)) <|
 .seq (.reg [4, 10, 12, 13, 14] [⟨(some 50), none, .load true 4 (.t 2)⟩,
    ⟨(some 51), none, .mov (.t 11)⟩,
    ⟨(some 52), none, .call (.c (.g (.fn 45))) [(.t 50), (.t 51)]⟩,
    ⟨(some 49), none, .mov (.t 52)⟩,
    ⟨(some 53), none, .ext 0 (.t 49)⟩,
    ⟨(some 54), none, .ext 1 (.t 49)⟩,
    ⟨(some 55), none, .ext 2 (.t 49)⟩,
    ⟨(some 12), none, .alloc [.z (.int .i64 0), .z (.int .i64 0), .s 6, .s 8]⟩,
    ⟨none, none, .store 4 (.t 12) (.t 53)⟩,
    ⟨(some 13), none, .mov (.t 54)⟩,
    ⟨(some 14), none, .mov (.t 55)⟩]) <|
 .seq (.reg [4, 5, 6, 7] [⟨(some 56), none, .load true 4 (.t 12)⟩,
    ⟨(some 57), none, .mov (.t 10)⟩,
    ⟨(some 58), none, .mov (.t 57)⟩,
    ⟨(some 59), (some (58, true)), .mov (.t 14)⟩,
    ⟨(some 60), (some (58, true)), .bin .eql (.t 59) (.c (.g (.int .i64 0)))⟩,
    ⟨(some 61), none, .pick (.t 58) (.t 60) (.c (.g (.bool false)))⟩,
    ⟨(some 62), none, .mov (.t 13)⟩,
    ⟨(some 63), none, .mov (.t 14)⟩,
    ⟨none, none, .store 4 (.t 4) (.t 56)⟩,
    ⟨(some 5), none, .mov (.t 61)⟩,
    ⟨(some 6), none, .mov (.t 62)⟩,
    ⟨(some 7), none, .mov (.t 63)⟩]) <|
 .ret⟩
def h24 : List (List Nat) := [[2, 3, 4], [2, 3, 4, 25], [2, 3, 4], [4, 5, 6, 7], [2, 3, 4, 28, 29, 30], [2, 3, 4], [2, 3, 4, 28, 29, 30], [2, 3, 4, 28, 29, 30, 31], [2, 3, 4, 28, 29, 30], [2, 3, 4, 28, 29, 30], [2, 3, 4, 9, 28, 29, 30], [2, 3, 4, 28, 29, 30, 36], [2, 3, 4, 28, 29, 30], [4, 5, 6, 7], [2, 3, 4, 28, 29, 30], [2, 3, 4, 10, 11], [], [2, 3, 4, 10, 11, 46], [2, 4, 10, 11], [2, 4, 10, 11], [4, 10, 12, 13, 14], [4, 5, 6, 7]]
theorem c24 : cFunc Try.prog 24 false h24 = some F24 := by kernel_rfl

end Go.Proofs.Ytnbclicefmpkiaa
