/- The compiled functions of the seat, part IRd2. No conditions. -/
import Derived.Test.YtnbclicefmpkiaaAMJ3
import Derived.Test.YtnbclicefmpkiaaProg
import Derived.KernelRfl
namespace Go.Proofs.Ytnbclicefmpkiaa
open Go Go.AM Go.Proofs
/-- baton/batonref06.Do -/
def L25_0 : IC :=
 .seq (.seq (.reg [2, 3, 4, 8, 35] [⟨(some 31), none, .mov (.t 8)⟩,
     ⟨(some 32), none, .faddr 0 (.t 3)⟩,
     ⟨(some 33), none, .load false 1 (.t 32)⟩,
     ⟨(some 34), none, .len (.t 33)⟩,
     ⟨(some 35), none, .bin .lss (.t 31) (.t 34)⟩]) <|
  .cond [2, 3, 4, 8] (.t 35)
   (.skip)
   (.exit 0)) <|
 .seq (.block [2, 3, 4, 8] 1 <|
  .seq (.reg [2, 3, 4, 8, 71] [⟨(some 38), none, .faddr 0 (.t 3)⟩,
     ⟨(some 39), none, .load false 1 (.t 38)⟩,
     ⟨(some 40), none, .mov (.t 8)⟩,
     ⟨(some 41), none, .iaddr 5 (.t 39) (.t 40)⟩,
     ⟨(some 42), none, .faddr 1 (.t 41)⟩,
     ⟨(some 43), none, .load false 1 (.t 42)⟩,
     ⟨(some 44), none, .bin .lss (.t 43) (.c (.g (.int .i64 1)))⟩,
     ⟨(some 45), none, .mov (.t 44)⟩,
     ⟨(some 46), (some (45, false)), .faddr 0 (.t 3)⟩,
     ⟨(some 47), (some (45, false)), .load false 1 (.t 46)⟩,
     ⟨(some 48), (some (45, false)), .mov (.t 8)⟩,
     ⟨(some 49), (some (45, false)), .iaddr 5 (.t 47) (.t 48)⟩,
     ⟨(some 50), (some (45, false)), .faddr 1 (.t 49)⟩,
     ⟨(some 51), (some (45, false)), .load false 1 (.t 50)⟩,
     ⟨(some 52), (some (45, false)), .bin .gtr (.t 51) (.c (.g (.int .i64 4)))⟩,
     ⟨(some 53), none, .pick (.t 45) (.c (.g (.bool true))) (.t 52)⟩,
     ⟨(some 54), none, .mov (.t 53)⟩,
     ⟨(some 55), (some (54, false)), .faddr 0 (.t 3)⟩,
     ⟨(some 56), (some (54, false)), .load false 1 (.t 55)⟩,
     ⟨(some 57), (some (54, false)), .mov (.t 8)⟩,
     ⟨(some 58), (some (54, false)), .iaddr 5 (.t 56) (.t 57)⟩,
     ⟨(some 59), (some (54, false)), .faddr 2 (.t 58)⟩,
     ⟨(some 60), (some (54, false)), .load false 1 (.t 59)⟩,
     ⟨(some 61), (some (54, false)), .bin .lss (.t 60) (.c (.g (.int .i64 1)))⟩,
     ⟨(some 62), none, .pick (.t 54) (.c (.g (.bool true))) (.t 61)⟩,
     ⟨(some 63), none, .mov (.t 62)⟩,
     ⟨(some 64), (some (63, false)), .faddr 0 (.t 3)⟩,
     ⟨(some 65), (some (63, false)), .load false 1 (.t 64)⟩,
     ⟨(some 66), (some (63, false)), .mov (.t 8)⟩,
     ⟨(some 67), (some (63, false)), .iaddr 5 (.t 65) (.t 66)⟩,
     ⟨(some 68), (some (63, false)), .faddr 2 (.t 67)⟩,
     ⟨(some 69), (some (63, false)), .load false 1 (.t 68)⟩,
     ⟨(some 70), (some (63, false)), .bin .gtr (.t 69) (.c (.g (.int .i64 3)))⟩,
     ⟨(some 71), none, .pick (.t 63) (.c (.g (.bool true))) (.t 70)⟩]) <|
  .cond [2, 3, 4, 8] (.t 71)
   (.seq (.reg [4, 5, 6, 7] [⟨(some 72), none, .load true 4 (.t 2)⟩,
       ⟨none, none, .store 4 (.t 4) (.t 72)⟩,
       ⟨(some 5), none, .mov (.c (.g (.bool false)))⟩,
       ⟨(some 6), none, .nres 8⟩,
       ⟨(some 7), none, .mov (.c (.g (.int .i64 1)))⟩]) <|
    .ret)
   (.skip)) <|
 .reg [2, 3, 4, 8] [⟨(some 36), none, .mov (.t 8)⟩,
   ⟨(some 37), none, .bin .add (.t 36) (.c (.g (.int .i64 1)))⟩,
   ⟨(some 8), none, .mov (.t 37)⟩]
def F25 : IFunc := ⟨2, 97, [.cell 4 true 4, .tmp 5, .tmp 6, .tmp 7], false,
 .seq (.reg [2, 3, 4] [⟨(some 2), none, .box (.t 0)⟩,
    ⟨(some 3), none, .box (.t 1)⟩,
    ⟨(some 4), none, .alloc [.z (.int .i64 0), .z (.int .i64 0), .s 6, .s 8]⟩,
    ⟨(some 5), none, .mov (.c (.g (.bool false)))⟩,
    ⟨(some 6), none, .nres 8⟩,
    ⟨(some 7), none, .mov (.c (.g (.int .i64 0)))⟩]) <|
 .seq (.seq (.reg [2, 3, 4, 29] [⟨(some 14), none, .faddr 0 (.t 3)⟩,
     ⟨(some 15), none, .load false 1 (.t 14)⟩,
     ⟨(some 16), none, .len (.t 15)⟩,
     ⟨(some 17), none, .bin .gtr (.t 16) (.c (.g (.int .i64 4)))⟩,
     ⟨(some 18), none, .mov (.t 17)⟩,
     ⟨(some 19), (some (18, false)), .faddr 1 (.t 3)⟩,
     ⟨(some 20), (some (18, false)), .load false 1 (.t 19)⟩,
     ⟨(some 21), (some (18, false)), .len (.t 20)⟩,
     ⟨(some 22), (some (18, false)), .bin .gtr (.t 21) (.c (.g (.int .i64 4)))⟩,
     ⟨(some 23), none, .pick (.t 18) (.c (.g (.bool true))) (.t 22)⟩,
     ⟨(some 24), none, .mov (.t 23)⟩,
     ⟨(some 25), (some (24, false)), .faddr 2 (.t 3)⟩,
     ⟨(some 26), (some (24, false)), .load false 1 (.t 25)⟩,
     ⟨(some 27), (some (24, false)), .len (.t 26)⟩,
     ⟨(some 28), (some (24, false)), .bin .gtr (.t 27) (.c (.g (.int .i64 4)))⟩,
     ⟨(some 29), none, .pick (.t 24) (.c (.g (.bool true))) (.t 28)⟩]) <|
  .cond [2, 3, 4] (.t 29)
   (.seq (.reg [4, 5, 6, 7] [⟨(some 30), none, .load true 4 (.t 2)⟩,
       ⟨none, none, .store 4 (.t 4) (.t 30)⟩,
       ⟨(some 5), none, .mov (.c (.g (.bool false)))⟩,
       ⟨(some 6), none, .nres 8⟩,
       ⟨(some 7), none, .mov (.c (.g (.int .i64 1)))⟩]) <|
    .ret)
   (.skip)) <|
 .seq (.seq (.reg [2, 3, 4, 8] [⟨(some 8), none, .mov (.c (.g (.int .i64 0)))⟩]) <|
  .block [2, 3, 4] 0 <|
  .loop [2, 3, 4, 8] [] L25_0) <|
 .seq (.drw [2, 3, 4, 9] 0 <|
  .take ⟨(some 73), none, .load true 4 (.t 2)⟩ <|
  .take ⟨(some 75), none, .faddr 0 (.t 3)⟩ <|
  .take ⟨(some 76), none, .load false 1 (.t 75)⟩ <|
  .one ⟨(some 74), none, .call (.c (.g (.fn 43))) [(.t 73)]⟩ <|
  .one ⟨(some 77), none, .call (.c (.g (.fn 20))) [(.t 74), (.t 76)]⟩ <|
  .free <|
  .take ⟨(some 9), none, .mov (.t 77)⟩ <|
  .leaf) <|
 .seq (.reg [2, 3, 4, 9, 10] [⟨(some 78), none, .faddr 2 (.t 3)⟩,
    ⟨(some 79), none, .load false 1 (.t 78)⟩,
    ⟨(some 10), none, .mov (.t 79)⟩]) <|
 .seq (.seq (.reg [2, 3, 4, 9, 10, 80] [⟨(some 80), none, .mov (.t 9)⟩]) <|
  .cond [2, 4, 9, 10] (.t 80)
   (.reg [2, 4, 9, 10] [⟨(some 81), none, .faddr 1 (.t 3)⟩,
      ⟨(some 82), none, .load false 1 (.t 81)⟩,
      ⟨(some 10), none, .mov (.t 82)⟩])
   (.skip)) <|
 .seq (.reg [2, 4, 9, 11, 12, 13] [⟨(some 84), none, .load true 4 (.t 2)⟩,
    ⟨(some 85), none, .mov (.t 10)⟩,
    ⟨(some 86), none, .call (.c (.g (.fn 46))) [(.t 84), (.t 85)]⟩,
    ⟨(some 83), none, .mov (.t 86)⟩,
    ⟨(some 87), none, .ext 0 (.t 83)⟩,
    ⟨(some 88), none, .ext 1 (.t 83)⟩,
    ⟨(some 89), none, .ext 2 (.t 83)⟩,
    ⟨(some 11), none, .alloc [.z (.int .i64 0), .z (.int .i64 0), .s 6, .s 8]⟩,
    ⟨none, none, .store 4 (.t 11) (.t 87)⟩,
    ⟨(some 12), none, .mov (.t 88)⟩,
    ⟨(some 13), none, .mov (.t 89)⟩]) <|
 .seq (.seq (.reg [2, 4, 9, 11, 12, 13, 91] [⟨(some 90), none, .mov (.t 13)⟩,
     ⟨(some 91), none, .bin .neq (.t 90) (.c (.g (.int .i64 0)))⟩]) <|
  .cond [4, 9, 11, 12] (.t 91)
   (.seq (.reg [4, 5, 6, 7] [⟨(some 92), none, .load true 4 (.t 2)⟩,
       ⟨(some 93), none, .mov (.t 13)⟩,
       ⟨none, none, .store 4 (.t 4) (.t 92)⟩,
       ⟨(some 5), none, .mov (.c (.g (.bool false)))⟩,
       ⟨(some 6), none, .nres 8⟩,
       ⟨(some 7), none, .mov (.t 93)⟩]) <|
    .ret)
   (.skip)) <|
 .seq (.reg [4, 5, 6, 7] [⟨(some 94), none, .load true 4 (.t 11)⟩,
    ⟨(some 95), none, .mov (.t 9)⟩,
    ⟨(some 96), none, .mov (.t 12)⟩,
    ⟨none, none, .store 4 (.t 4) (.t 94)⟩,
    ⟨(some 5), none, .mov (.t 95)⟩,
    ⟨(some 6), none, .mov (.t 96)⟩,
    ⟨(some 7), none, .mov (.c (.g (.int .i64 0)))⟩]) <|
 .ret⟩
def h25 : List (List Nat) := [[2, 3, 4], [2, 3, 4, 29], [2, 3, 4], [4, 5, 6, 7], [2, 3, 4, 8], [2, 3, 4], [2, 3, 4, 8], [2, 3, 4, 8, 35], [2, 3, 4, 8], [2, 3, 4, 8], [2, 3, 4, 8, 71], [2, 3, 4, 8], [4, 5, 6, 7], [2, 3, 4, 8], [2, 3, 4, 9], [], [2, 3, 4, 9, 10], [2, 3, 4, 9, 10, 80], [2, 4, 9, 10], [2, 4, 9, 10], [2, 4, 9, 11, 12, 13], [2, 4, 9, 11, 12, 13, 91], [4, 9, 11, 12], [4, 5, 6, 7], [4, 5, 6, 7]]
theorem c25 : cFunc Try.prog 25 false h25 = some F25 := by kernel_rfl

/-- baton/batonref05.Same -/
def F26 : IFunc := ⟨2, 31, [.tmp 4], false,
 .seq (.reg [2, 3] [⟨(some 2), none, .box (.t 0)⟩,
    ⟨(some 3), none, .box (.t 1)⟩,
    ⟨(some 4), none, .mov (.c (.g (.bool false)))⟩]) <|
 .seq (.reg [4] [⟨(some 5), none, .faddr 0 (.t 2)⟩,
    ⟨(some 6), none, .load false 1 (.t 5)⟩,
    ⟨(some 7), none, .faddr 0 (.t 3)⟩,
    ⟨(some 8), none, .load false 1 (.t 7)⟩,
    ⟨(some 9), none, .bin .eql (.t 6) (.t 8)⟩,
    ⟨(some 10), none, .mov (.t 9)⟩,
    ⟨(some 11), (some (10, true)), .faddr 1 (.t 2)⟩,
    ⟨(some 12), (some (10, true)), .load false 1 (.t 11)⟩,
    ⟨(some 13), (some (10, true)), .faddr 1 (.t 3)⟩,
    ⟨(some 14), (some (10, true)), .load false 1 (.t 13)⟩,
    ⟨(some 15), (some (10, true)), .bin .eql (.t 12) (.t 14)⟩,
    ⟨(some 16), none, .pick (.t 10) (.t 15) (.c (.g (.bool false)))⟩,
    ⟨(some 17), none, .mov (.t 16)⟩,
    ⟨(some 18), (some (17, true)), .faddr 2 (.t 2)⟩,
    ⟨(some 19), (some (17, true)), .load false 1 (.t 18)⟩,
    ⟨(some 20), (some (17, true)), .faddr 2 (.t 3)⟩,
    ⟨(some 21), (some (17, true)), .load false 1 (.t 20)⟩,
    ⟨(some 22), (some (17, true)), .call (.c (.g (.fn 41))) [(.t 19), (.t 21)]⟩,
    ⟨(some 23), none, .pick (.t 17) (.t 22) (.c (.g (.bool false)))⟩,
    ⟨(some 24), none, .mov (.t 23)⟩,
    ⟨(some 25), (some (24, true)), .faddr 3 (.t 2)⟩,
    ⟨(some 26), (some (24, true)), .load false 1 (.t 25)⟩,
    ⟨(some 27), (some (24, true)), .faddr 3 (.t 3)⟩,
    ⟨(some 28), (some (24, true)), .load false 1 (.t 27)⟩,
    ⟨(some 29), (some (24, true)), .call (.c (.g (.fn 27))) [(.t 26), (.t 28)]⟩,
    ⟨(some 30), none, .pick (.t 24) (.t 29) (.c (.g (.bool false)))⟩,
    ⟨(some 4), none, .mov (.t 30)⟩]) <|
 .ret⟩
def h26 : List (List Nat) := [[2, 3], [4]]
theorem c26 : cFunc Try.prog 26 false h26 = some F26 := by kernel_rfl

/-- baton/batonref03.Events -/
def L27_0 : IC :=
 .seq (.seq (.reg [0, 1, 5, 14] [⟨(some 11), none, .mov (.t 5)⟩,
     ⟨(some 12), none, .mov (.t 0)⟩,
     ⟨(some 13), none, .len (.t 12)⟩,
     ⟨(some 14), none, .bin .lss (.t 11) (.t 13)⟩]) <|
  .cond [0, 1, 5] (.t 14)
   (.skip)
   (.exit 0)) <|
 .seq (.block [0, 1, 5] 1 <|
  .seq (.drw [0, 1, 5, 25] 0 <|
   .take ⟨(some 17), none, .mov (.t 0)⟩ <|
   .take ⟨(some 18), none, .mov (.t 5)⟩ <|
   .take ⟨(some 19), none, .iaddr 8 (.t 17) (.t 18)⟩ <|
   .take ⟨(some 20), none, .load true 8 (.t 19)⟩ <|
   .take ⟨(some 21), none, .mov (.t 1)⟩ <|
   .take ⟨(some 22), none, .mov (.t 5)⟩ <|
   .take ⟨(some 23), none, .iaddr 8 (.t 21) (.t 22)⟩ <|
   .take ⟨(some 24), none, .load true 8 (.t 23)⟩ <|
   .free <|
   .take ⟨(some 25), none, .eqs true true [.i, .b, .s, .s, .i, .i, .i, .i] (.t 20) (.t 24)⟩ <|
   .leaf) <|
  .cond [0, 1, 5] (.t 25)
   (.seq (.reg [4] [⟨(some 4), none, .mov (.c (.g (.bool false)))⟩]) <|
    .ret)
   (.skip)) <|
 .reg [0, 1, 5] [⟨(some 15), none, .mov (.t 5)⟩,
   ⟨(some 16), none, .bin .add (.t 15) (.c (.g (.int .i64 1)))⟩,
   ⟨(some 5), none, .mov (.t 16)⟩]
def F27 : IFunc := ⟨2, 26, [.tmp 4], false,
 .seq (.reg [0, 1] [⟨(some 4), none, .mov (.c (.g (.bool false)))⟩]) <|
 .seq (.seq (.reg [0, 1, 10] [⟨(some 6), none, .mov (.t 0)⟩,
     ⟨(some 7), none, .len (.t 6)⟩,
     ⟨(some 8), none, .mov (.t 1)⟩,
     ⟨(some 9), none, .len (.t 8)⟩,
     ⟨(some 10), none, .bin .neq (.t 7) (.t 9)⟩]) <|
  .cond [0, 1] (.t 10)
   (.seq (.reg [4] [⟨(some 4), none, .mov (.c (.g (.bool false)))⟩]) <|
    .ret)
   (.skip)) <|
 .seq (.seq (.reg [0, 1, 5] [⟨(some 5), none, .mov (.c (.g (.int .i64 0)))⟩]) <|
  .block [] 0 <|
  .loop [0, 1, 5] [] L27_0) <|
 .seq (.reg [4] [⟨(some 4), none, .mov (.c (.g (.bool true)))⟩]) <|
 .ret⟩
def h27 : List (List Nat) := [[0, 1], [0, 1, 10], [0, 1], [4], [0, 1, 5], [], [0, 1, 5], [0, 1, 5, 14], [0, 1, 5], [0, 1, 5], [0, 1, 5, 25], [], [0, 1, 5], [4], [0, 1, 5], [4]]
theorem c27 : cFunc Try.prog 27 false h27 = some F27 := by kernel_rfl

/-- baton/txn.Put -/
def F28 : IFunc := ⟨3, 16, [.cell 6 true 3], false,
 .seq (.reg [0, 1, 2, 6] [⟨(some 6), none, .alloc [.s 5, .s 4, .s 4]⟩]) <|
 .seq (.reg [6] [⟨(some 7), none, .mov (.t 0)⟩,
    ⟨(some 8), none, .call (.c (.g (.fn 32))) [(.t 7)]⟩,
    ⟨(some 9), none, .bslice 5 1 [.str [], .int .i64 0, .int .i64 0, .int .i64 0, .str []] [(0, 5, (.t 8))]⟩,
    ⟨(some 10), none, .mov (.t 0)⟩,
    ⟨(some 11), none, .mov (.t 1)⟩,
    ⟨(some 12), none, .mov (.t 2)⟩,
    ⟨(some 13), none, .build [.g (.bool false), .g (.str []), .g (.str []), .g (.int .i64 0)] [(1, 1, (.t 10)), (2, 1, (.t 11)), (3, 1, (.t 12))]⟩,
    ⟨(some 14), none, .bslice 4 1 [.bool false, .str [], .str [], .int .i64 0] [(0, 4, (.t 13))]⟩,
    ⟨(some 15), none, .build [.g (.nsl), .g (.nsl), .g (.nsl)] [(0, 1, (.t 9)), (1, 1, (.t 14))]⟩,
    ⟨none, none, .store 3 (.t 6) (.t 15)⟩]) <|
 .ret⟩
def h28 : List (List Nat) := [[0, 1, 2, 6], [6]]
theorem c28 : cFunc Try.prog 28 false h28 = some F28 := by kernel_rfl

/-- baton/batonref06.Put -/
def F29 : IFunc := ⟨3, 16, [.cell 6 true 3], false,
 .seq (.reg [0, 1, 2, 6] [⟨(some 6), none, .alloc [.s 5, .s 4, .s 4]⟩]) <|
 .seq (.reg [6] [⟨(some 7), none, .mov (.t 0)⟩,
    ⟨(some 8), none, .call (.c (.g (.fn 33))) [(.t 7)]⟩,
    ⟨(some 9), none, .bslice 5 1 [.str [], .int .i64 0, .int .i64 0, .int .i64 0, .str []] [(0, 5, (.t 8))]⟩,
    ⟨(some 10), none, .mov (.t 0)⟩,
    ⟨(some 11), none, .mov (.t 1)⟩,
    ⟨(some 12), none, .mov (.t 2)⟩,
    ⟨(some 13), none, .build [.g (.bool false), .g (.str []), .g (.str []), .g (.int .i64 0)] [(1, 1, (.t 10)), (2, 1, (.t 11)), (3, 1, (.t 12))]⟩,
    ⟨(some 14), none, .bslice 4 1 [.bool false, .str [], .str [], .int .i64 0] [(0, 4, (.t 13))]⟩,
    ⟨(some 15), none, .build [.g (.nsl), .g (.nsl), .g (.nsl)] [(0, 1, (.t 9)), (1, 1, (.t 14))]⟩,
    ⟨none, none, .store 3 (.t 6) (.t 15)⟩]) <|
 .ret⟩
def h29 : List (List Nat) := [[0, 1, 2, 6], [6]]
theorem c29 : cFunc Try.prog 29 false h29 = some F29 := by kernel_rfl

/-- baton/txn.Drop -/
def F30 : IFunc := ⟨2, 13, [.cell 4 true 3], false,
 .seq (.reg [0, 1, 4] [⟨(some 4), none, .alloc [.s 5, .s 4, .s 4]⟩]) <|
 .seq (.reg [4] [⟨(some 5), none, .mov (.t 0)⟩,
    ⟨(some 6), none, .mov (.t 1)⟩,
    ⟨(some 7), none, .call (.c (.g (.fn 34))) [(.t 5), (.t 6)]⟩,
    ⟨(some 8), none, .bslice 5 1 [.str [], .int .i64 0, .int .i64 0, .int .i64 0, .str []] [(0, 5, (.t 7))]⟩,
    ⟨(some 9), none, .mov (.t 0)⟩,
    ⟨(some 10), none, .build [.g (.bool false), .g (.str []), .g (.str []), .g (.int .i64 0)] [(0, 1, (.c (.g (.bool true)))), (1, 1, (.t 9))]⟩,
    ⟨(some 11), none, .bslice 4 1 [.bool false, .str [], .str [], .int .i64 0] [(0, 4, (.t 10))]⟩,
    ⟨(some 12), none, .build [.g (.nsl), .g (.nsl), .g (.nsl)] [(0, 1, (.t 8)), (1, 1, (.t 11))]⟩,
    ⟨none, none, .store 3 (.t 4) (.t 12)⟩]) <|
 .ret⟩
def h30 : List (List Nat) := [[0, 1, 4], [4]]
theorem c30 : cFunc Try.prog 30 false h30 = some F30 := by kernel_rfl

/-- baton/batonref06.Drop -/
def F31 : IFunc := ⟨2, 13, [.cell 4 true 3], false,
 .seq (.reg [0, 1, 4] [⟨(some 4), none, .alloc [.s 5, .s 4, .s 4]⟩]) <|
 .seq (.reg [4] [⟨(some 5), none, .mov (.t 0)⟩,
    ⟨(some 6), none, .mov (.t 1)⟩,
    ⟨(some 7), none, .call (.c (.g (.fn 35))) [(.t 5), (.t 6)]⟩,
    ⟨(some 8), none, .bslice 5 1 [.str [], .int .i64 0, .int .i64 0, .int .i64 0, .str []] [(0, 5, (.t 7))]⟩,
    ⟨(some 9), none, .mov (.t 0)⟩,
    ⟨(some 10), none, .build [.g (.bool false), .g (.str []), .g (.str []), .g (.int .i64 0)] [(0, 1, (.c (.g (.bool true)))), (1, 1, (.t 9))]⟩,
    ⟨(some 11), none, .bslice 4 1 [.bool false, .str [], .str [], .int .i64 0] [(0, 4, (.t 10))]⟩,
    ⟨(some 12), none, .build [.g (.nsl), .g (.nsl), .g (.nsl)] [(0, 1, (.t 8)), (1, 1, (.t 11))]⟩,
    ⟨none, none, .store 3 (.t 4) (.t 12)⟩]) <|
 .ret⟩
def h31 : List (List Nat) := [[0, 1, 4], [4]]
theorem c31 : cFunc Try.prog 31 false h31 = some F31 := by kernel_rfl

/-- baton/txn.Absent -/
def F32 : IFunc := ⟨1, 5, [.cell 2 true 5], false,
 .seq (.reg [0, 2] [⟨(some 2), none, .alloc [.z (.str []), .z (.int .i64 0), .z (.int .i64 0), .z (.int .i64 0), .z (.str [])]⟩]) <|
 .seq (.reg [2] [⟨(some 3), none, .mov (.t 0)⟩,
    ⟨(some 4), none, .call (.c (.g (.fn 34))) [(.t 3), (.c (.g (.int .i64 0)))]⟩,
    ⟨none, none, .store 5 (.t 2) (.t 4)⟩]) <|
 .ret⟩
def h32 : List (List Nat) := [[0, 2], [2]]
theorem c32 : cFunc Try.prog 32 false h32 = some F32 := by kernel_rfl

/-- baton/batonref06.Absent -/
def F33 : IFunc := ⟨1, 5, [.cell 2 true 5], false,
 .seq (.reg [0, 2] [⟨(some 2), none, .alloc [.z (.str []), .z (.int .i64 0), .z (.int .i64 0), .z (.int .i64 0), .z (.str [])]⟩]) <|
 .seq (.reg [2] [⟨(some 3), none, .mov (.t 0)⟩,
    ⟨(some 4), none, .build [.g (.str []), .g (.int .i64 0), .g (.int .i64 0), .g (.int .i64 0), .g (.str [])] [(0, 1, (.t 3)), (1, 1, (.c (.g (.int .i64 1)))), (2, 1, (.c (.g (.int .i64 1))))]⟩,
    ⟨none, none, .store 5 (.t 2) (.t 4)⟩]) <|
 .ret⟩
def h33 : List (List Nat) := [[0, 2], [2]]
theorem c33 : cFunc Try.prog 33 false h33 = some F33 := by kernel_rfl

/-- baton/txn.Made -/
def F34 : IFunc := ⟨2, 8, [.cell 4 true 5], false,
 .seq (.reg [0, 1, 4] [⟨(some 4), none, .alloc [.z (.str []), .z (.int .i64 0), .z (.int .i64 0), .z (.int .i64 0), .z (.str [])]⟩]) <|
 .seq (.reg [4] [⟨(some 5), none, .mov (.t 0)⟩,
    ⟨(some 6), none, .mov (.t 1)⟩,
    ⟨(some 7), none, .build [.g (.str []), .g (.int .i64 0), .g (.int .i64 0), .g (.int .i64 0), .g (.str [])] [(0, 1, (.t 5)), (1, 1, (.c (.g (.int .i64 1)))), (2, 1, (.c (.g (.int .i64 1)))), (3, 1, (.t 6))]⟩,
    ⟨none, none, .store 5 (.t 4) (.t 7)⟩]) <|
 .ret⟩
def h34 : List (List Nat) := [[0, 1, 4], [4]]
theorem c34 : cFunc Try.prog 34 false h34 = some F34 := by kernel_rfl

/-- baton/batonref06.Made -/
def F35 : IFunc := ⟨2, 8, [.cell 4 true 5], false,
 .seq (.reg [0, 1, 4] [⟨(some 4), none, .alloc [.z (.str []), .z (.int .i64 0), .z (.int .i64 0), .z (.int .i64 0), .z (.str [])]⟩]) <|
 .seq (.reg [4] [⟨(some 5), none, .mov (.t 0)⟩,
    ⟨(some 6), none, .mov (.t 1)⟩,
    ⟨(some 7), none, .build [.g (.str []), .g (.int .i64 0), .g (.int .i64 0), .g (.int .i64 0), .g (.str [])] [(0, 1, (.t 5)), (1, 1, (.c (.g (.int .i64 1)))), (2, 1, (.c (.g (.int .i64 1)))), (3, 1, (.t 6))]⟩,
    ⟨none, none, .store 5 (.t 4) (.t 7)⟩]) <|
 .ret⟩
def h35 : List (List Nat) := [[0, 1, 4], [4]]
theorem c35 : cFunc Try.prog 35 false h35 = some F35 := by kernel_rfl

/-- baton/batonref03.Same -/
def L36_0 : IC :=
 .seq (.seq (.reg [2, 3, 5, 90] [⟨(some 85), none, .mov (.t 5)⟩,
     ⟨(some 86), none, .faddr 10 (.t 2)⟩,
     ⟨(some 87), none, .faddr 0 (.t 86)⟩,
     ⟨(some 88), none, .load false 1 (.t 87)⟩,
     ⟨(some 89), none, .len (.t 88)⟩,
     ⟨(some 90), none, .bin .lss (.t 85) (.t 89)⟩]) <|
  .cond [2, 3, 5] (.t 90)
   (.skip)
   (.exit 0)) <|
 .seq (.block [2, 3, 5] 1 <|
  .seq (.drw [2, 3, 5, 105] 0 <|
   .take ⟨(some 93), none, .faddr 10 (.t 2)⟩ <|
   .take ⟨(some 94), none, .faddr 0 (.t 93)⟩ <|
   .take ⟨(some 95), none, .load false 1 (.t 94)⟩ <|
   .take ⟨(some 96), none, .mov (.t 5)⟩ <|
   .take ⟨(some 97), none, .iaddr 5 (.t 95) (.t 96)⟩ <|
   .take ⟨(some 98), none, .load true 5 (.t 97)⟩ <|
   .take ⟨(some 99), none, .faddr 10 (.t 3)⟩ <|
   .take ⟨(some 100), none, .faddr 0 (.t 99)⟩ <|
   .take ⟨(some 101), none, .load false 1 (.t 100)⟩ <|
   .take ⟨(some 102), none, .mov (.t 5)⟩ <|
   .take ⟨(some 103), none, .iaddr 5 (.t 101) (.t 102)⟩ <|
   .take ⟨(some 104), none, .load true 5 (.t 103)⟩ <|
   .take ⟨(some 105), none, .eqs true true [.s, .i, .i, .i, .s] (.t 98) (.t 104)⟩ <|
   .leaf) <|
  .cond [2, 3, 5] (.t 105)
   (.seq (.reg [4] [⟨(some 4), none, .mov (.c (.g (.bool false)))⟩]) <|
    .ret)
   (.skip)) <|
 .reg [2, 3, 5] [⟨(some 91), none, .mov (.t 5)⟩,
   ⟨(some 92), none, .bin .add (.t 91) (.c (.g (.int .i64 1)))⟩,
   ⟨(some 5), none, .mov (.t 92)⟩]
def F36 : IFunc := ⟨2, 122, [.tmp 4], false,
 .seq (.reg [2, 3] [⟨(some 2), none, .box (.t 0)⟩,
    ⟨(some 3), none, .box (.t 1)⟩,
    ⟨(some 4), none, .mov (.c (.g (.bool false)))⟩]) <|
 .seq (.seq (.reg [2, 3, 84] [⟨(some 6), none, .faddr 0 (.t 2)⟩,
     ⟨(some 7), none, .load false 1 (.t 6)⟩,
     ⟨(some 8), none, .faddr 0 (.t 3)⟩,
     ⟨(some 9), none, .load false 1 (.t 8)⟩,
     ⟨(some 10), none, .bin .neq (.t 7) (.t 9)⟩,
     ⟨(some 11), none, .mov (.t 10)⟩,
     ⟨(some 12), (some (11, false)), .faddr 1 (.t 2)⟩,
     ⟨(some 13), (some (11, false)), .load false 1 (.t 12)⟩,
     ⟨(some 14), (some (11, false)), .faddr 1 (.t 3)⟩,
     ⟨(some 15), (some (11, false)), .load false 1 (.t 14)⟩,
     ⟨(some 16), (some (11, false)), .bin .neq (.t 13) (.t 15)⟩,
     ⟨(some 17), none, .pick (.t 11) (.c (.g (.bool true))) (.t 16)⟩,
     ⟨(some 18), none, .mov (.t 17)⟩,
     ⟨(some 19), (some (18, false)), .faddr 2 (.t 2)⟩,
     ⟨(some 20), (some (18, false)), .load false 1 (.t 19)⟩,
     ⟨(some 21), (some (18, false)), .faddr 2 (.t 3)⟩,
     ⟨(some 22), (some (18, false)), .load false 1 (.t 21)⟩,
     ⟨(some 23), (some (18, false)), .bin .neq (.t 20) (.t 22)⟩,
     ⟨(some 24), none, .pick (.t 18) (.c (.g (.bool true))) (.t 23)⟩,
     ⟨(some 25), none, .mov (.t 24)⟩,
     ⟨(some 26), (some (25, false)), .faddr 3 (.t 2)⟩,
     ⟨(some 27), (some (25, false)), .load false 1 (.t 26)⟩,
     ⟨(some 28), (some (25, false)), .faddr 3 (.t 3)⟩,
     ⟨(some 29), (some (25, false)), .load false 1 (.t 28)⟩,
     ⟨(some 30), (some (25, false)), .eqs true false [.b] (.t 27) (.t 29)⟩,
     ⟨(some 31), none, .pick (.t 25) (.c (.g (.bool true))) (.t 30)⟩,
     ⟨(some 32), none, .mov (.t 31)⟩,
     ⟨(some 33), (some (32, false)), .faddr 4 (.t 2)⟩,
     ⟨(some 34), (some (32, false)), .load false 1 (.t 33)⟩,
     ⟨(some 35), (some (32, false)), .faddr 4 (.t 3)⟩,
     ⟨(some 36), (some (32, false)), .load false 1 (.t 35)⟩,
     ⟨(some 37), (some (32, false)), .bin .neq (.t 34) (.t 36)⟩,
     ⟨(some 38), none, .pick (.t 32) (.c (.g (.bool true))) (.t 37)⟩,
     ⟨(some 39), none, .mov (.t 38)⟩,
     ⟨(some 40), (some (39, false)), .faddr 5 (.t 2)⟩,
     ⟨(some 41), (some (39, false)), .load false 1 (.t 40)⟩,
     ⟨(some 42), (some (39, false)), .faddr 5 (.t 3)⟩,
     ⟨(some 43), (some (39, false)), .load false 1 (.t 42)⟩,
     ⟨(some 44), (some (39, false)), .bin .neq (.t 41) (.t 43)⟩,
     ⟨(some 45), none, .pick (.t 39) (.c (.g (.bool true))) (.t 44)⟩,
     ⟨(some 46), none, .mov (.t 45)⟩,
     ⟨(some 47), (some (46, false)), .faddr 6 (.t 2)⟩,
     ⟨(some 48), (some (46, false)), .load false 1 (.t 47)⟩,
     ⟨(some 49), (some (46, false)), .faddr 6 (.t 3)⟩,
     ⟨(some 50), (some (46, false)), .load false 1 (.t 49)⟩,
     ⟨(some 51), (some (46, false)), .bin .neq (.t 48) (.t 50)⟩,
     ⟨(some 52), none, .pick (.t 46) (.c (.g (.bool true))) (.t 51)⟩,
     ⟨(some 53), none, .mov (.t 52)⟩,
     ⟨(some 54), (some (53, false)), .faddr 7 (.t 2)⟩,
     ⟨(some 55), (some (53, false)), .load false 1 (.t 54)⟩,
     ⟨(some 56), (some (53, false)), .faddr 7 (.t 3)⟩,
     ⟨(some 57), (some (53, false)), .load false 1 (.t 56)⟩,
     ⟨(some 58), (some (53, false)), .bin .neq (.t 55) (.t 57)⟩,
     ⟨(some 59), none, .pick (.t 53) (.c (.g (.bool true))) (.t 58)⟩,
     ⟨(some 60), none, .mov (.t 59)⟩,
     ⟨(some 61), (some (60, false)), .faddr 8 (.t 2)⟩,
     ⟨(some 62), (some (60, false)), .load false 1 (.t 61)⟩,
     ⟨(some 63), (some (60, false)), .faddr 8 (.t 3)⟩,
     ⟨(some 64), (some (60, false)), .load false 1 (.t 63)⟩,
     ⟨(some 65), (some (60, false)), .bin .neq (.t 62) (.t 64)⟩,
     ⟨(some 66), none, .pick (.t 60) (.c (.g (.bool true))) (.t 65)⟩,
     ⟨(some 67), none, .mov (.t 66)⟩,
     ⟨(some 68), (some (67, false)), .faddr 9 (.t 2)⟩,
     ⟨(some 69), (some (67, false)), .load false 1 (.t 68)⟩,
     ⟨(some 70), (some (67, false)), .faddr 9 (.t 3)⟩,
     ⟨(some 71), (some (67, false)), .load false 1 (.t 70)⟩,
     ⟨(some 72), (some (67, false)), .bin .neq (.t 69) (.t 71)⟩,
     ⟨(some 73), none, .pick (.t 67) (.c (.g (.bool true))) (.t 72)⟩,
     ⟨(some 74), none, .mov (.t 73)⟩,
     ⟨(some 75), (some (74, false)), .faddr 10 (.t 2)⟩,
     ⟨(some 76), (some (74, false)), .faddr 0 (.t 75)⟩,
     ⟨(some 77), (some (74, false)), .load false 1 (.t 76)⟩,
     ⟨(some 78), (some (74, false)), .len (.t 77)⟩,
     ⟨(some 79), (some (74, false)), .faddr 10 (.t 3)⟩,
     ⟨(some 80), (some (74, false)), .faddr 0 (.t 79)⟩,
     ⟨(some 81), (some (74, false)), .load false 1 (.t 80)⟩,
     ⟨(some 82), (some (74, false)), .len (.t 81)⟩,
     ⟨(some 83), (some (74, false)), .bin .neq (.t 78) (.t 82)⟩,
     ⟨(some 84), none, .pick (.t 74) (.c (.g (.bool true))) (.t 83)⟩]) <|
  .cond [2, 3] (.t 84)
   (.seq (.reg [4] [⟨(some 4), none, .mov (.c (.g (.bool false)))⟩]) <|
    .ret)
   (.skip)) <|
 .seq (.seq (.reg [2, 3, 5] [⟨(some 5), none, .mov (.c (.g (.int .i64 0)))⟩]) <|
  .block [2, 3] 0 <|
  .loop [2, 3, 5] [] L36_0) <|
 .seq (.reg [4] [⟨(some 106), none, .faddr 10 (.t 2)⟩,
    ⟨(some 107), none, .faddr 1 (.t 106)⟩,
    ⟨(some 108), none, .load false 1 (.t 107)⟩,
    ⟨(some 109), none, .faddr 10 (.t 3)⟩,
    ⟨(some 110), none, .faddr 1 (.t 109)⟩,
    ⟨(some 111), none, .load false 1 (.t 110)⟩,
    ⟨(some 112), none, .call (.c (.g (.fn 61))) [(.t 108), (.t 111)]⟩,
    ⟨(some 113), none, .mov (.t 112)⟩,
    ⟨(some 114), (some (113, true)), .faddr 10 (.t 2)⟩,
    ⟨(some 115), (some (113, true)), .faddr 2 (.t 114)⟩,
    ⟨(some 116), (some (113, true)), .load false 1 (.t 115)⟩,
    ⟨(some 117), (some (113, true)), .faddr 10 (.t 3)⟩,
    ⟨(some 118), (some (113, true)), .faddr 2 (.t 117)⟩,
    ⟨(some 119), (some (113, true)), .load false 1 (.t 118)⟩,
    ⟨(some 120), (some (113, true)), .call (.c (.g (.fn 61))) [(.t 116), (.t 119)]⟩,
    ⟨(some 121), none, .pick (.t 113) (.t 120) (.c (.g (.bool false)))⟩,
    ⟨(some 4), none, .mov (.t 121)⟩]) <|
 .ret⟩
def h36 : List (List Nat) := [[2, 3], [2, 3, 84], [2, 3], [4], [2, 3, 5], [2, 3], [2, 3, 5], [2, 3, 5, 90], [2, 3, 5], [2, 3, 5], [2, 3, 5, 105], [], [2, 3, 5], [4], [2, 3, 5], [4]]
theorem c36 : cFunc Try.prog 36 false h36 = some F36 := by kernel_rfl

/-- baton/batonlaw05.live -/
def F37 : IFunc := ⟨0, 193, [.tmp 0], false,
 .seq (.reg [] [⟨(some 0), none, .mov (.c (.g (.bool false)))⟩]) <|
 .seq (.reg [1, 2, 3] [⟨(some 23), none, .call (.c (.g (.fn 51))) []⟩,
    ⟨(some 24), none, .build [.g (.bool false), .g (.str []), .g (.str []), .g (.int .i64 0)] [(1, 1, (.c (.g (.str [97])))), (2, 1, (.c (.g (.str [120]))))]⟩,
    ⟨(some 25), none, .build [.g (.bool false), .g (.str []), .g (.str []), .g (.int .i64 0)] [(1, 1, (.c (.g (.str [98])))), (3, 1, (.c (.g (.int .i64 3))))]⟩,
    ⟨(some 26), none, .bslice 4 2 [.bool false, .str [], .str [], .int .i64 0] [(0, 4, (.t 24)), (4, 4, (.t 25))]⟩,
    ⟨(some 27), none, .call (.c (.g (.fn 45))) [(.t 23), (.t 26)]⟩,
    ⟨(some 22), none, .mov (.t 27)⟩,
    ⟨(some 28), none, .ext 0 (.t 22)⟩,
    ⟨(some 29), none, .ext 1 (.t 22)⟩,
    ⟨(some 30), none, .ext 2 (.t 22)⟩,
    ⟨(some 1), none, .alloc [.z (.int .i64 0), .z (.int .i64 0), .s 6, .s 8]⟩,
    ⟨none, none, .store 4 (.t 1) (.t 28)⟩,
    ⟨(some 2), none, .mov (.t 29)⟩,
    ⟨(some 3), none, .mov (.t 30)⟩]) <|
 .seq (.reg [2, 3, 4, 5, 6] [⟨(some 32), none, .load true 4 (.t 1)⟩,
    ⟨(some 33), none, .build [.g (.bool false), .g (.str []), .g (.str []), .g (.int .i64 0)] [(1, 1, (.c (.g (.str [97])))), (2, 1, (.c (.g (.str [121]))))]⟩,
    ⟨(some 34), none, .build [.g (.bool false), .g (.str []), .g (.str []), .g (.int .i64 0)] [(0, 1, (.c (.g (.bool true)))), (1, 1, (.c (.g (.str [98]))))]⟩,
    ⟨(some 35), none, .build [.g (.bool false), .g (.str []), .g (.str []), .g (.int .i64 0)] [(0, 1, (.c (.g (.bool true)))), (1, 1, (.c (.g (.str [99]))))]⟩,
    ⟨(some 36), none, .bslice 4 3 [.bool false, .str [], .str [], .int .i64 0] [(0, 4, (.t 33)), (4, 4, (.t 34)), (8, 4, (.t 35))]⟩,
    ⟨(some 37), none, .call (.c (.g (.fn 45))) [(.t 32), (.t 36)]⟩,
    ⟨(some 31), none, .mov (.t 37)⟩,
    ⟨(some 38), none, .ext 0 (.t 31)⟩,
    ⟨(some 39), none, .ext 1 (.t 31)⟩,
    ⟨(some 40), none, .ext 2 (.t 31)⟩,
    ⟨(some 4), none, .alloc [.z (.int .i64 0), .z (.int .i64 0), .s 6, .s 8]⟩,
    ⟨none, none, .store 4 (.t 4) (.t 38)⟩,
    ⟨(some 5), none, .mov (.t 39)⟩,
    ⟨(some 6), none, .mov (.t 40)⟩]) <|
 .seq (.reg [2, 3, 4, 5, 6, 7, 8, 9] [⟨(some 42), none, .load true 4 (.t 4)⟩,
    ⟨(some 43), none, .build [.g (.bool false), .g (.str []), .g (.str []), .g (.int .i64 0)] [(0, 1, (.c (.g (.bool true)))), (1, 1, (.c (.g (.str [99]))))]⟩,
    ⟨(some 44), none, .bslice 4 1 [.bool false, .str [], .str [], .int .i64 0] [(0, 4, (.t 43))]⟩,
    ⟨(some 45), none, .call (.c (.g (.fn 45))) [(.t 42), (.t 44)]⟩,
    ⟨(some 41), none, .mov (.t 45)⟩,
    ⟨(some 46), none, .ext 0 (.t 41)⟩,
    ⟨(some 47), none, .ext 1 (.t 41)⟩,
    ⟨(some 48), none, .ext 2 (.t 41)⟩,
    ⟨(some 7), none, .alloc [.z (.int .i64 0), .z (.int .i64 0), .s 6, .s 8]⟩,
    ⟨none, none, .store 4 (.t 7) (.t 46)⟩,
    ⟨(some 8), none, .mov (.t 47)⟩,
    ⟨(some 9), none, .mov (.t 48)⟩]) <|
 .seq (.reg [2, 3, 4, 5, 6, 7, 8, 9, 12] [⟨(some 50), none, .load true 4 (.t 4)⟩,
    ⟨(some 51), none, .build [.g (.bool false), .g (.str []), .g (.str []), .g (.int .i64 0)] [(1, 1, (.c (.g (.str []))))]⟩,
    ⟨(some 52), none, .bslice 4 1 [.bool false, .str [], .str [], .int .i64 0] [(0, 4, (.t 51))]⟩,
    ⟨(some 53), none, .call (.c (.g (.fn 45))) [(.t 50), (.t 52)]⟩,
    ⟨(some 49), none, .mov (.t 53)⟩,
    ⟨(some 54), none, .ext 0 (.t 49)⟩,
    ⟨(some 55), none, .ext 1 (.t 49)⟩,
    ⟨(some 56), none, .ext 2 (.t 49)⟩,
    ⟨(some 10), none, .alloc [.z (.int .i64 0), .z (.int .i64 0), .s 6, .s 8]⟩,
    ⟨none, none, .store 4 (.t 10) (.t 54)⟩,
    ⟨(some 11), none, .mov (.t 55)⟩,
    ⟨(some 12), none, .mov (.t 56)⟩]) <|
 .seq (.reg [2, 3, 4, 5, 6, 7, 8, 9, 12, 13, 14] [⟨(some 58), none, .load true 4 (.t 4)⟩,
    ⟨(some 59), none, .call (.c (.g (.fn 38))) [(.t 58), (.c (.g (.int .i64 1)))]⟩,
    ⟨(some 57), none, .mov (.t 59)⟩,
    ⟨(some 60), none, .ext 0 (.t 57)⟩,
    ⟨(some 61), none, .ext 1 (.t 57)⟩,
    ⟨(some 13), none, .mov (.t 60)⟩,
    ⟨(some 14), none, .mov (.t 61)⟩]) <|
 .seq (.reg [2, 3, 4, 5, 6, 7, 8, 9, 12, 13, 14, 16] [⟨(some 63), none, .load true 4 (.t 4)⟩,
    ⟨(some 64), none, .call (.c (.g (.fn 38))) [(.t 63), (.c (.g (.int .i64 3)))]⟩,
    ⟨(some 62), none, .mov (.t 64)⟩,
    ⟨(some 65), none, .ext 0 (.t 62)⟩,
    ⟨(some 66), none, .ext 1 (.t 62)⟩,
    ⟨(some 15), none, .mov (.t 65)⟩,
    ⟨(some 16), none, .mov (.t 66)⟩]) <|
 .seq (.reg [2, 3, 4, 5, 6, 7, 8, 9, 12, 13, 14, 16, 17, 18] [⟨(some 68), none, .load true 4 (.t 4)⟩,
    ⟨(some 69), none, .call (.c (.g (.fn 47))) [(.t 68), (.c (.g (.int .i64 2)))]⟩,
    ⟨(some 67), none, .mov (.t 69)⟩,
    ⟨(some 70), none, .ext 0 (.t 67)⟩,
    ⟨(some 71), none, .ext 1 (.t 67)⟩,
    ⟨(some 17), none, .alloc [.z (.int .i64 0), .z (.int .i64 0), .s 6, .s 8]⟩,
    ⟨none, none, .store 4 (.t 17) (.t 70)⟩,
    ⟨(some 18), none, .mov (.t 71)⟩]) <|
 .seq (.reg [2, 3, 4, 5, 6, 7, 8, 9, 12, 13, 14, 16, 17, 18, 20] [⟨(some 73), none, .load true 4 (.t 17)⟩,
    ⟨(some 74), none, .call (.c (.g (.fn 38))) [(.t 73), (.c (.g (.int .i64 1)))]⟩,
    ⟨(some 72), none, .mov (.t 74)⟩,
    ⟨(some 75), none, .ext 0 (.t 72)⟩,
    ⟨(some 76), none, .ext 1 (.t 72)⟩,
    ⟨(some 19), none, .mov (.t 75)⟩,
    ⟨(some 20), none, .mov (.t 76)⟩]) <|
 .seq (.reg [2, 3, 4, 5, 6, 7, 8, 9, 12, 13, 14, 16, 17, 18, 20, 21] [⟨(some 77), none, .load true 4 (.t 17)⟩,
    ⟨(some 78), none, .call (.c (.g (.fn 42))) [(.t 77)]⟩,
    ⟨(some 21), none, .mov (.t 78)⟩]) <|
 .seq (.reg [0] [⟨(some 79), none, .mov (.t 3)⟩,
    ⟨(some 80), none, .bin .eql (.t 79) (.c (.g (.int .i64 0)))⟩,
    ⟨(some 81), none, .mov (.t 80)⟩,
    ⟨(some 82), (some (81, true)), .mov (.t 2)⟩,
    ⟨(some 83), (some (81, true)), .len (.t 82)⟩,
    ⟨(some 84), (some (81, true)), .bin .eql (.t 83) (.c (.g (.int .i64 2)))⟩,
    ⟨(some 85), none, .pick (.t 81) (.t 84) (.c (.g (.bool false)))⟩,
    ⟨(some 86), none, .mov (.t 85)⟩,
    ⟨(some 87), (some (86, true)), .mov (.t 2)⟩,
    ⟨(some 88), (some (86, true)), .iaddr 8 (.t 87) (.c (.g (.int .i64 1)))⟩,
    ⟨(some 89), (some (86, true)), .faddr 2 (.t 88)⟩,
    ⟨(some 90), (some (86, true)), .faddr 5 (.t 89)⟩,
    ⟨(some 91), (some (86, true)), .load false 1 (.t 90)⟩,
    ⟨(some 92), (some (86, true)), .bin .eql (.t 91) (.c (.g (.int .i64 3)))⟩,
    ⟨(some 93), none, .pick (.t 86) (.t 92) (.c (.g (.bool false)))⟩,
    ⟨(some 94), none, .mov (.t 93)⟩,
    ⟨(some 95), (some (94, true)), .mov (.t 6)⟩,
    ⟨(some 96), (some (94, true)), .bin .eql (.t 95) (.c (.g (.int .i64 0)))⟩,
    ⟨(some 97), none, .pick (.t 94) (.t 96) (.c (.g (.bool false)))⟩,
    ⟨(some 98), none, .mov (.t 97)⟩,
    ⟨(some 99), (some (98, true)), .faddr 0 (.t 4)⟩,
    ⟨(some 100), (some (98, true)), .load false 1 (.t 99)⟩,
    ⟨(some 101), (some (98, true)), .bin .eql (.t 100) (.c (.g (.int .i64 2)))⟩,
    ⟨(some 102), none, .pick (.t 98) (.t 101) (.c (.g (.bool false)))⟩,
    ⟨(some 103), none, .mov (.t 102)⟩,
    ⟨(some 104), (some (103, true)), .mov (.t 5)⟩,
    ⟨(some 105), (some (103, true)), .len (.t 104)⟩,
    ⟨(some 106), (some (103, true)), .bin .eql (.t 105) (.c (.g (.int .i64 2)))⟩,
    ⟨(some 107), none, .pick (.t 103) (.t 106) (.c (.g (.bool false)))⟩,
    ⟨(some 108), none, .mov (.t 107)⟩,
    ⟨(some 109), (some (108, true)), .mov (.t 5)⟩,
    ⟨(some 110), (some (108, true)), .iaddr 8 (.t 109) (.c (.g (.int .i64 0)))⟩,
    ⟨(some 111), (some (108, true)), .faddr 2 (.t 110)⟩,
    ⟨(some 112), (some (108, true)), .load true 6 (.t 111)⟩,
    ⟨(some 113), (some (108, true)), .build [.g (.str []), .g (.str []), .g (.int .i64 0), .g (.int .i64 0), .g (.int .i64 0), .g (.int .i64 0)] [(0, 1, (.c (.g (.str [97])))), (1, 1, (.c (.g (.str [121])))), (2, 1, (.c (.g (.int .i64 1)))), (3, 1, (.c (.g (.int .i64 2)))), (4, 1, (.c (.g (.int .i64 2))))]⟩,
    ⟨(some 114), (some (108, true)), .eqs false true [.s, .s, .i, .i, .i, .i] (.t 112) (.t 113)⟩,
    ⟨(some 115), none, .pick (.t 108) (.t 114) (.c (.g (.bool false)))⟩,
    ⟨(some 116), none, .mov (.t 115)⟩,
    ⟨(some 117), (some (116, true)), .mov (.t 5)⟩,
    ⟨(some 118), (some (116, true)), .iaddr 8 (.t 117) (.c (.g (.int .i64 1)))⟩,
    ⟨(some 119), (some (116, true)), .faddr 1 (.t 118)⟩,
    ⟨(some 120), (some (116, true)), .load false 1 (.t 119)⟩,
    ⟨(some 121), none, .pick (.t 116) (.t 120) (.c (.g (.bool false)))⟩,
    ⟨(some 122), none, .mov (.t 121)⟩,
    ⟨(some 123), (some (122, true)), .mov (.t 9)⟩,
    ⟨(some 124), (some (122, true)), .bin .eql (.t 123) (.c (.g (.int .i64 0)))⟩,
    ⟨(some 125), none, .pick (.t 122) (.t 124) (.c (.g (.bool false)))⟩,
    ⟨(some 126), none, .mov (.t 125)⟩,
    ⟨(some 127), (some (126, true)), .mov (.t 8)⟩,
    ⟨(some 128), (some (126, true)), .len (.t 127)⟩,
    ⟨(some 129), (some (126, true)), .bin .eql (.t 128) (.c (.g (.int .i64 0)))⟩,
    ⟨(some 130), none, .pick (.t 126) (.t 129) (.c (.g (.bool false)))⟩,
    ⟨(some 131), none, .mov (.t 130)⟩,
    ⟨(some 132), (some (131, true)), .load true 4 (.t 4)⟩,
    ⟨(some 133), (some (131, true)), .load true 4 (.t 7)⟩,
    ⟨(some 134), (some (131, true)), .call (.c (.g (.fn 26))) [(.t 132), (.t 133)]⟩,
    ⟨(some 135), none, .pick (.t 131) (.t 134) (.c (.g (.bool false)))⟩,
    ⟨(some 136), none, .mov (.t 135)⟩,
    ⟨(some 137), (some (136, true)), .mov (.t 12)⟩,
    ⟨(some 138), (some (136, true)), .bin .eql (.t 137) (.c (.g (.int .i64 1)))⟩,
    ⟨(some 139), none, .pick (.t 136) (.t 138) (.c (.g (.bool false)))⟩,
    ⟨(some 140), none, .mov (.t 139)⟩,
    ⟨(some 141), (some (140, true)), .mov (.t 14)⟩,
    ⟨(some 142), (some (140, true)), .bin .eql (.t 141) (.c (.g (.int .i64 0)))⟩,
    ⟨(some 143), none, .pick (.t 140) (.t 142) (.c (.g (.bool false)))⟩,
    ⟨(some 144), none, .mov (.t 143)⟩,
    ⟨(some 145), (some (144, true)), .mov (.t 13)⟩,
    ⟨(some 146), (some (144, true)), .len (.t 145)⟩,
    ⟨(some 147), (some (144, true)), .bin .eql (.t 146) (.c (.g (.int .i64 2)))⟩,
    ⟨(some 148), none, .pick (.t 144) (.t 147) (.c (.g (.bool false)))⟩,
    ⟨(some 149), none, .mov (.t 148)⟩,
    ⟨(some 150), (some (149, true)), .mov (.t 13)⟩,
    ⟨(some 151), (some (149, true)), .iaddr 6 (.t 150) (.c (.g (.int .i64 0)))⟩,
    ⟨(some 152), (some (149, true)), .faddr 1 (.t 151)⟩,
    ⟨(some 153), (some (149, true)), .load false 1 (.t 152)⟩,
    ⟨(some 154), (some (149, true)), .bin .eql (.t 153) (.c (.g (.str [120])))⟩,
    ⟨(some 155), none, .pick (.t 149) (.t 154) (.c (.g (.bool false)))⟩,
    ⟨(some 156), none, .mov (.t 155)⟩,
    ⟨(some 157), (some (156, true)), .mov (.t 16)⟩,
    ⟨(some 158), (some (156, true)), .bin .eql (.t 157) (.c (.g (.int .i64 8)))⟩,
    ⟨(some 159), none, .pick (.t 156) (.t 158) (.c (.g (.bool false)))⟩,
    ⟨(some 160), none, .mov (.t 159)⟩,
    ⟨(some 161), (some (160, true)), .mov (.t 18)⟩,
    ⟨(some 162), (some (160, true)), .bin .eql (.t 161) (.c (.g (.int .i64 0)))⟩,
    ⟨(some 163), none, .pick (.t 160) (.t 162) (.c (.g (.bool false)))⟩,
    ⟨(some 164), none, .mov (.t 163)⟩,
    ⟨(some 165), (some (164, true)), .mov (.t 20)⟩,
    ⟨(some 166), (some (164, true)), .bin .eql (.t 165) (.c (.g (.int .i64 9)))⟩,
    ⟨(some 167), none, .pick (.t 164) (.t 166) (.c (.g (.bool false)))⟩,
    ⟨(some 168), none, .mov (.t 167)⟩,
    ⟨(some 169), (some (168, true)), .mov (.t 21)⟩,
    ⟨(some 170), (some (168, true)), .len (.t 169)⟩,
    ⟨(some 171), (some (168, true)), .bin .eql (.t 170) (.c (.g (.int .i64 1)))⟩,
    ⟨(some 172), none, .pick (.t 168) (.t 171) (.c (.g (.bool false)))⟩,
    ⟨(some 173), none, .mov (.t 172)⟩,
    ⟨(some 174), (some (173, true)), .mov (.t 21)⟩,
    ⟨(some 175), (some (173, true)), .iaddr 6 (.t 174) (.c (.g (.int .i64 0)))⟩,
    ⟨(some 176), (some (173, true)), .faddr 1 (.t 175)⟩,
    ⟨(some 177), (some (173, true)), .load false 1 (.t 176)⟩,
    ⟨(some 178), (some (173, true)), .bin .eql (.t 177) (.c (.g (.str [121])))⟩,
    ⟨(some 179), none, .pick (.t 173) (.t 178) (.c (.g (.bool false)))⟩,
    ⟨(some 180), none, .mov (.t 179)⟩,
    ⟨(some 181), (some (180, true)), .load true 4 (.t 4)⟩,
    ⟨(some 182), (some (180, true)), .call (.c (.g (.fn 40))) [(.t 181)]⟩,
    ⟨(some 183), none, .pick (.t 180) (.t 182) (.c (.g (.bool false)))⟩,
    ⟨(some 184), none, .mov (.t 183)⟩,
    ⟨(some 185), (some (184, true)), .load true 4 (.t 17)⟩,
    ⟨(some 186), (some (184, true)), .call (.c (.g (.fn 40))) [(.t 185)]⟩,
    ⟨(some 187), none, .pick (.t 184) (.t 186) (.c (.g (.bool false)))⟩,
    ⟨(some 188), none, .mov (.t 187)⟩,
    ⟨(some 189), (some (188, true)), .build [.g (.int .i64 0), .g (.int .i64 0), .g (.nsl), .g (.nsl)] [(1, 1, (.c (.g (.int .i64 1))))]⟩,
    ⟨(some 190), (some (188, true)), .call (.c (.g (.fn 40))) [(.t 189)]⟩,
    ⟨(some 191), (some (188, true)), .un .not (.t 190)⟩,
    ⟨(some 192), none, .pick (.t 188) (.t 191) (.c (.g (.bool false)))⟩,
    ⟨(some 0), none, .mov (.t 192)⟩]) <|
 .ret⟩
def h37 : List (List Nat) := [[], [1, 2, 3], [2, 3, 4, 5, 6], [2, 3, 4, 5, 6, 7, 8, 9], [2, 3, 4, 5, 6, 7, 8, 9, 12], [2, 3, 4, 5, 6, 7, 8, 9, 12, 13, 14], [2, 3, 4, 5, 6, 7, 8, 9, 12, 13, 14, 16], [2, 3, 4, 5, 6, 7, 8, 9, 12, 13, 14, 16, 17, 18], [2, 3, 4, 5, 6, 7, 8, 9, 12, 13, 14, 16, 17, 18, 20], [2, 3, 4, 5, 6, 7, 8, 9, 12, 13, 14, 16, 17, 18, 20, 21], [0]]
theorem c37 : cFunc Try.prog 37 false h37 = some F37 := by kernel_rfl

/-- baton/mvcc.At -/
def F38 : IFunc := ⟨2, 31, [.tmp 4, .tmp 5], false,
 .seq (.reg [1, 2] [⟨(some 2), none, .box (.t 0)⟩,
    ⟨(some 4), none, .nres 6⟩,
    ⟨(some 5), none, .mov (.c (.g (.int .i64 0)))⟩]) <|
 .seq (.block [1, 2] 0 <|
  .seq (.reg [1, 2, 6] [⟨(some 7), none, .mov (.t 1)⟩,
     ⟨(some 8), none, .bin .eql (.t 7) (.c (.g (.int .i64 0)))⟩,
     ⟨(some 6), none, .mov (.t 8)⟩]) <|
  .cond [1, 2] (.t 6)
   (.reg [1, 2] [⟨(some 9), none, .faddr 0 (.t 2)⟩,
      ⟨(some 10), none, .load false 1 (.t 9)⟩,
      ⟨(some 1), none, .mov (.t 10)⟩])
   (.seq (.reg [1, 2, 11] [⟨(some 12), none, .mov (.t 1)⟩,
       ⟨(some 13), none, .bin .lss (.t 12) (.c (.g (.int .i64 0)))⟩,
       ⟨(some 14), none, .mov (.t 13)⟩,
       ⟨(some 15), (some (14, false)), .mov (.t 1)⟩,
       ⟨(some 16), (some (14, false)), .faddr 0 (.t 2)⟩,
       ⟨(some 17), (some (14, false)), .load false 1 (.t 16)⟩,
       ⟨(some 18), (some (14, false)), .bin .gtr (.t 15) (.t 17)⟩,
       ⟨(some 19), none, .pick (.t 14) (.c (.g (.bool true))) (.t 18)⟩,
       ⟨(some 11), none, .mov (.t 19)⟩]) <|
    .cond [1, 2] (.t 11)
     (.seq (.reg [4, 5] [⟨(some 4), none, .nres 6⟩,
         ⟨(some 5), none, .mov (.c (.g (.int .i64 8)))⟩]) <|
      .ret)
     (.seq (.reg [1, 2, 20] [⟨(some 21), none, .mov (.t 1)⟩,
         ⟨(some 22), none, .faddr 1 (.t 2)⟩,
         ⟨(some 23), none, .load false 1 (.t 22)⟩,
         ⟨(some 24), none, .bin .lss (.t 21) (.t 23)⟩,
         ⟨(some 20), none, .mov (.t 24)⟩]) <|
      .cond [1, 2] (.t 20)
       (.seq (.reg [4, 5] [⟨(some 4), none, .nres 6⟩,
           ⟨(some 5), none, .mov (.c (.g (.int .i64 9)))⟩]) <|
        .ret)
       (.skip)))) <|
 .seq (.reg [4, 5] [⟨(some 25), none, .faddr 2 (.t 2)⟩,
    ⟨(some 26), none, .load false 1 (.t 25)⟩,
    ⟨(some 27), none, .faddr 3 (.t 2)⟩,
    ⟨(some 28), none, .load false 1 (.t 27)⟩,
    ⟨(some 29), none, .mov (.t 1)⟩,
    ⟨(some 30), none, .call (.c (.g (.fn 62))) [(.t 26), (.t 28), (.t 29)]⟩,
    ⟨(some 4), none, .mov (.t 30)⟩,
    ⟨(some 5), none, .mov (.c (.g (.int .i64 0)))⟩]) <|
 .ret⟩
def h38 : List (List Nat) := [[1, 2], [1, 2], [1, 2, 6], [1, 2], [1, 2], [1, 2, 11], [1, 2], [4, 5], [1, 2, 20], [1, 2], [4, 5], [4, 5]]
theorem c38 : cFunc Try.prog 38 false h38 = some F38 := by kernel_rfl

/-- baton/batonref05.At -/
def F39 : IFunc := ⟨2, 28, [.tmp 4, .tmp 5], false,
 .seq (.reg [1, 2] [⟨(some 2), none, .box (.t 0)⟩,
    ⟨(some 4), none, .nres 6⟩,
    ⟨(some 5), none, .mov (.c (.g (.int .i64 0)))⟩]) <|
 .seq (.seq (.reg [1, 2, 7] [⟨(some 6), none, .mov (.t 1)⟩,
     ⟨(some 7), none, .bin .eql (.t 6) (.c (.g (.int .i64 0)))⟩]) <|
  .cond [1, 2] (.t 7)
   (.seq (.reg [4, 5] [⟨(some 8), none, .load true 4 (.t 2)⟩,
       ⟨(some 9), none, .call (.c (.g (.fn 43))) [(.t 8)]⟩,
       ⟨(some 4), none, .mov (.t 9)⟩,
       ⟨(some 5), none, .mov (.c (.g (.int .i64 0)))⟩]) <|
    .ret)
   (.skip)) <|
 .seq (.seq (.reg [1, 2, 17] [⟨(some 10), none, .mov (.t 1)⟩,
     ⟨(some 11), none, .bin .lss (.t 10) (.c (.g (.int .i64 0)))⟩,
     ⟨(some 12), none, .mov (.t 11)⟩,
     ⟨(some 13), (some (12, false)), .mov (.t 1)⟩,
     ⟨(some 14), (some (12, false)), .faddr 0 (.t 2)⟩,
     ⟨(some 15), (some (12, false)), .load false 1 (.t 14)⟩,
     ⟨(some 16), (some (12, false)), .bin .gtr (.t 13) (.t 15)⟩,
     ⟨(some 17), none, .pick (.t 12) (.c (.g (.bool true))) (.t 16)⟩]) <|
  .cond [1, 2] (.t 17)
   (.seq (.reg [4, 5] [⟨(some 4), none, .nres 6⟩,
       ⟨(some 5), none, .mov (.c (.g (.int .i64 8)))⟩]) <|
    .ret)
   (.skip)) <|
 .seq (.seq (.reg [1, 2, 21] [⟨(some 18), none, .mov (.t 1)⟩,
     ⟨(some 19), none, .faddr 1 (.t 2)⟩,
     ⟨(some 20), none, .load false 1 (.t 19)⟩,
     ⟨(some 21), none, .bin .lss (.t 18) (.t 20)⟩]) <|
  .cond [1, 2] (.t 21)
   (.seq (.reg [4, 5] [⟨(some 4), none, .nres 6⟩,
       ⟨(some 5), none, .mov (.c (.g (.int .i64 9)))⟩]) <|
    .ret)
   (.skip)) <|
 .seq (.reg [4, 5] [⟨(some 22), none, .faddr 2 (.t 2)⟩,
    ⟨(some 23), none, .load false 1 (.t 22)⟩,
    ⟨(some 24), none, .faddr 3 (.t 2)⟩,
    ⟨(some 25), none, .load false 1 (.t 24)⟩,
    ⟨(some 26), none, .mov (.t 1)⟩,
    ⟨(some 27), none, .call (.c (.g (.fn 59))) [(.t 23), (.t 25), (.t 26)]⟩,
    ⟨(some 4), none, .mov (.t 27)⟩,
    ⟨(some 5), none, .mov (.c (.g (.int .i64 0)))⟩]) <|
 .ret⟩
def h39 : List (List Nat) := [[1, 2], [1, 2, 7], [1, 2], [4, 5], [1, 2, 17], [1, 2], [4, 5], [1, 2, 21], [1, 2], [4, 5], [4, 5]]
theorem c39 : cFunc Try.prog 39 false h39 = some F39 := by kernel_rfl

/-- baton/mvcc.May -/
def L40_0 : IC :=
 .seq (.reg [1, 3, 4, 50, 51, 52, 53] [⟨(some 53), none, .bin .lss (.t 52) (.t 51)⟩]) <|
 .seq (.cond [1, 3, 4, 50, 51, 52] (.t 53)
   (.skip)
   (.exit 0)) <|
 .seq (.block [1, 3, 4, 50, 51, 52] 1 <|
  .seq (.reg [1, 3, 4, 6, 50, 51, 52] [⟨(some 54), none, .iaddr 8 (.t 50) (.t 52)⟩,
     ⟨(some 55), none, .load true 8 (.t 54)⟩,
     ⟨(some 6), none, .alloc [.z (.int .i64 0), .z (.bool false), .z (.str []), .z (.str []), .z (.int .i64 0), .z (.int .i64 0), .z (.int .i64 0), .z (.int .i64 0)]⟩,
     ⟨none, none, .store 8 (.t 6) (.t 55)⟩]) <|
  .seq (.seq (.reg [1, 3, 6, 50, 51, 52, 72] [⟨(some 56), none, .faddr 0 (.t 6)⟩,
      ⟨(some 57), none, .load false 1 (.t 56)⟩,
      ⟨(some 58), none, .mov (.t 4)⟩,
      ⟨(some 59), none, .bin .lss (.t 57) (.t 58)⟩,
      ⟨(some 60), none, .mov (.t 59)⟩,
      ⟨(some 61), (some (60, false)), .faddr 0 (.t 6)⟩,
      ⟨(some 62), (some (60, false)), .load false 1 (.t 61)⟩,
      ⟨(some 63), (some (60, false)), .faddr 0 (.t 1)⟩,
      ⟨(some 64), (some (60, false)), .load false 1 (.t 63)⟩,
      ⟨(some 65), (some (60, false)), .bin .gtr (.t 62) (.t 64)⟩,
      ⟨(some 66), none, .pick (.t 60) (.c (.g (.bool true))) (.t 65)⟩,
      ⟨(some 67), none, .mov (.t 66)⟩,
      ⟨(some 68), (some (67, false)), .mov (.t 3)⟩,
      ⟨(some 69), (some (67, false)), .load true 8 (.t 6)⟩,
      ⟨(some 70), (some (67, false)), .call (.c (.g (.fn 66))) [(.t 68), (.t 69)]⟩,
      ⟨(some 71), (some (67, false)), .un .not (.t 70)⟩,
      ⟨(some 72), none, .pick (.t 67) (.c (.g (.bool true))) (.t 71)⟩]) <|
   .cond [1, 3, 6, 50, 51, 52] (.t 72)
    (.seq (.reg [2] [⟨(some 2), none, .mov (.c (.g (.bool false)))⟩]) <|
     .ret)
    (.skip)) <|
  .seq (.drw [1, 3, 4, 50, 51, 52] 0 <|
   .take ⟨(some 73), none, .mov (.t 3)⟩ <|
   .take ⟨(some 74), none, .load true 8 (.t 6)⟩ <|
   .take ⟨(some 76), none, .faddr 0 (.t 6)⟩ <|
   .take ⟨(some 77), none, .load false 1 (.t 76)⟩ <|
   .take ⟨(some 79), none, .faddr 0 (.t 6)⟩ <|
   .take ⟨(some 80), none, .load false 1 (.t 79)⟩ <|
   .one ⟨(some 75), none, .bslice 8 1 [.int .i64 0, .bool false, .str [], .str [], .int .i64 0, .int .i64 0, .int .i64 0, .int .i64 0] [(0, 8, (.t 74))]⟩ <|
   .one ⟨(some 78), none, .call (.c (.g (.fn 62))) [(.t 73), (.t 75), (.t 77)]⟩ <|
   .take ⟨(some 3), none, .mov (.t 78)⟩ <|
   .free <|
   .take ⟨(some 4), none, .mov (.t 80)⟩ <|
   .leaf) <|
  .seq (.reg [1, 3, 4, 50, 51, 52, 83] [⟨(some 81), none, .mov (.t 3)⟩,
     ⟨(some 82), none, .len (.t 81)⟩,
     ⟨(some 83), none, .bin .gtr (.t 82) (.c (.g (.int .i64 30)))⟩]) <|
  .cond [1, 3, 4, 50, 51, 52] (.t 83)
   (.seq (.reg [2] [⟨(some 2), none, .mov (.c (.g (.bool false)))⟩]) <|
    .ret)
   (.skip)) <|
 .reg [1, 3, 4, 50, 51, 52] [⟨(some 84), none, .bin .add (.t 52) (.c (.g (.int .i64 1)))⟩,
   ⟨(some 52), none, .mov (.t 84)⟩]
def F40 : IFunc := ⟨1, 85, [.tmp 2], false,
 .seq (.reg [1] [⟨(some 1), none, .box (.t 0)⟩,
    ⟨(some 2), none, .mov (.c (.g (.bool false)))⟩]) <|
 .seq (.seq (.reg [1, 39] [⟨(some 7), none, .faddr 1 (.t 1)⟩,
     ⟨(some 8), none, .load false 1 (.t 7)⟩,
     ⟨(some 9), none, .bin .lss (.t 8) (.c (.g (.int .i64 0)))⟩,
     ⟨(some 10), none, .mov (.t 9)⟩,
     ⟨(some 11), (some (10, false)), .faddr 1 (.t 1)⟩,
     ⟨(some 12), (some (10, false)), .load false 1 (.t 11)⟩,
     ⟨(some 13), (some (10, false)), .faddr 0 (.t 1)⟩,
     ⟨(some 14), (some (10, false)), .load false 1 (.t 13)⟩,
     ⟨(some 15), (some (10, false)), .bin .gtr (.t 12) (.t 14)⟩,
     ⟨(some 16), none, .pick (.t 10) (.c (.g (.bool true))) (.t 15)⟩,
     ⟨(some 17), none, .mov (.t 16)⟩,
     ⟨(some 18), (some (17, false)), .faddr 0 (.t 1)⟩,
     ⟨(some 19), (some (17, false)), .load false 1 (.t 18)⟩,
     ⟨(some 20), (some (17, false)), .bin .gtr (.t 19) (.c (.g (.int .i64 1099511627774)))⟩,
     ⟨(some 21), none, .pick (.t 17) (.c (.g (.bool true))) (.t 20)⟩,
     ⟨(some 22), none, .mov (.t 21)⟩,
     ⟨(some 23), (some (22, false)), .faddr 2 (.t 1)⟩,
     ⟨(some 24), (some (22, false)), .load false 1 (.t 23)⟩,
     ⟨(some 25), (some (22, false)), .len (.t 24)⟩,
     ⟨(some 26), (some (22, false)), .bin .gtr (.t 25) (.c (.g (.int .i64 30)))⟩,
     ⟨(some 27), none, .pick (.t 22) (.c (.g (.bool true))) (.t 26)⟩,
     ⟨(some 28), none, .mov (.t 27)⟩,
     ⟨(some 29), (some (28, false)), .faddr 3 (.t 1)⟩,
     ⟨(some 30), (some (28, false)), .load false 1 (.t 29)⟩,
     ⟨(some 31), (some (28, false)), .len (.t 30)⟩,
     ⟨(some 32), (some (28, false)), .bin .gtr (.t 31) (.c (.g (.int .i64 60)))⟩,
     ⟨(some 33), none, .pick (.t 28) (.c (.g (.bool true))) (.t 32)⟩,
     ⟨(some 34), none, .mov (.t 33)⟩,
     ⟨(some 35), (some (34, false)), .faddr 2 (.t 1)⟩,
     ⟨(some 36), (some (34, false)), .load false 1 (.t 35)⟩,
     ⟨(some 37), (some (34, false)), .call (.c (.g (.fn 63))) [(.t 36)]⟩,
     ⟨(some 38), (some (34, false)), .un .not (.t 37)⟩,
     ⟨(some 39), none, .pick (.t 34) (.c (.g (.bool true))) (.t 38)⟩]) <|
  .cond [1] (.t 39)
   (.seq (.reg [2] [⟨(some 2), none, .mov (.c (.g (.bool false)))⟩]) <|
    .ret)
   (.skip)) <|
 .seq (.seq (.reg [1, 43] [⟨(some 40), none, .faddr 2 (.t 1)⟩,
     ⟨(some 41), none, .load false 1 (.t 40)⟩,
     ⟨(some 42), none, .mkfn 65 [(.t 1)]⟩,
     ⟨(some 43), none, .call (.c (.g (.fn 64))) [(.t 41), (.t 42)]⟩]) <|
  .cond [1] (.t 43)
   (.seq (.reg [2] [⟨(some 2), none, .mov (.c (.g (.bool false)))⟩]) <|
    .ret)
   (.skip)) <|
 .seq (.drw [1, 3, 4] 0 <|
  .take ⟨(some 44), none, .faddr 2 (.t 1)⟩ <|
  .take ⟨(some 45), none, .load false 1 (.t 44)⟩ <|
  .take ⟨(some 46), none, .faddr 1 (.t 1)⟩ <|
  .take ⟨(some 47), none, .load false 1 (.t 46)⟩ <|
  .take ⟨(some 48), none, .bin .add (.t 47) (.c (.g (.int .i64 1)))⟩ <|
  .take ⟨(some 3), none, .mov (.t 45)⟩ <|
  .free <|
  .take ⟨(some 4), none, .mov (.t 48)⟩ <|
  .leaf) <|
 .seq (.seq (.reg [1, 3, 4, 50, 51, 52] [⟨(some 49), none, .faddr 3 (.t 1)⟩,
     ⟨(some 50), none, .load false 1 (.t 49)⟩,
     ⟨(some 51), none, .len (.t 50)⟩,
     ⟨(some 52), none, .mov (.c (.g (.int .i64 0)))⟩]) <|
  .block [] 0 <|
  .loop [1, 3, 4, 50, 51, 52] [] L40_0) <|
 .seq (.reg [2] [⟨(some 2), none, .mov (.c (.g (.bool true)))⟩]) <|
 .ret⟩
def h40 : List (List Nat) := [[1], [1, 39], [1], [2], [1, 43], [1], [2], [1, 3, 4], [], [1, 3, 4, 50, 51, 52], [], [1, 3, 4, 50, 51, 52], [1, 3, 4, 50, 51, 52, 53], [1, 3, 4, 50, 51, 52], [1, 3, 4, 50, 51, 52], [1, 3, 4, 6, 50, 51, 52], [1, 3, 6, 50, 51, 52, 72], [1, 3, 6, 50, 51, 52], [2], [1, 3, 4, 50, 51, 52], [], [1, 3, 4, 50, 51, 52, 83], [1, 3, 4, 50, 51, 52], [2], [1, 3, 4, 50, 51, 52], [2]]
theorem c40 : cFunc Try.prog 40 false h40 = some F40 := by kernel_rfl

/-- baton/batonref03.KVs -/
def L41_0 : IC :=
 .seq (.seq (.reg [0, 1, 5, 14] [⟨(some 11), none, .mov (.t 5)⟩,
     ⟨(some 12), none, .mov (.t 0)⟩,
     ⟨(some 13), none, .len (.t 12)⟩,
     ⟨(some 14), none, .bin .lss (.t 11) (.t 13)⟩]) <|
  .cond [0, 1, 5] (.t 14)
   (.skip)
   (.exit 0)) <|
 .seq (.block [0, 1, 5] 1 <|
  .seq (.drw [0, 1, 5, 25] 0 <|
   .take ⟨(some 17), none, .mov (.t 0)⟩ <|
   .take ⟨(some 18), none, .mov (.t 5)⟩ <|
   .take ⟨(some 19), none, .iaddr 6 (.t 17) (.t 18)⟩ <|
   .take ⟨(some 20), none, .load true 6 (.t 19)⟩ <|
   .take ⟨(some 21), none, .mov (.t 1)⟩ <|
   .take ⟨(some 22), none, .mov (.t 5)⟩ <|
   .take ⟨(some 23), none, .iaddr 6 (.t 21) (.t 22)⟩ <|
   .take ⟨(some 24), none, .load true 6 (.t 23)⟩ <|
   .free <|
   .take ⟨(some 25), none, .eqs true true [.s, .s, .i, .i, .i, .i] (.t 20) (.t 24)⟩ <|
   .leaf) <|
  .cond [0, 1, 5] (.t 25)
   (.seq (.reg [4] [⟨(some 4), none, .mov (.c (.g (.bool false)))⟩]) <|
    .ret)
   (.skip)) <|
 .reg [0, 1, 5] [⟨(some 15), none, .mov (.t 5)⟩,
   ⟨(some 16), none, .bin .add (.t 15) (.c (.g (.int .i64 1)))⟩,
   ⟨(some 5), none, .mov (.t 16)⟩]
def F41 : IFunc := ⟨2, 26, [.tmp 4], false,
 .seq (.reg [0, 1] [⟨(some 4), none, .mov (.c (.g (.bool false)))⟩]) <|
 .seq (.seq (.reg [0, 1, 10] [⟨(some 6), none, .mov (.t 0)⟩,
     ⟨(some 7), none, .len (.t 6)⟩,
     ⟨(some 8), none, .mov (.t 1)⟩,
     ⟨(some 9), none, .len (.t 8)⟩,
     ⟨(some 10), none, .bin .neq (.t 7) (.t 9)⟩]) <|
  .cond [0, 1] (.t 10)
   (.seq (.reg [4] [⟨(some 4), none, .mov (.c (.g (.bool false)))⟩]) <|
    .ret)
   (.skip)) <|
 .seq (.seq (.reg [0, 1, 5] [⟨(some 5), none, .mov (.c (.g (.int .i64 0)))⟩]) <|
  .block [] 0 <|
  .loop [0, 1, 5] [] L41_0) <|
 .seq (.reg [4] [⟨(some 4), none, .mov (.c (.g (.bool true)))⟩]) <|
 .ret⟩
def h41 : List (List Nat) := [[0, 1], [0, 1, 10], [0, 1], [4], [0, 1, 5], [], [0, 1, 5], [0, 1, 5, 14], [0, 1, 5], [0, 1, 5], [0, 1, 5, 25], [], [0, 1, 5], [4], [0, 1, 5], [4]]
theorem c41 : cFunc Try.prog 41 false h41 = some F41 := by kernel_rfl

/-- baton/mvcc.Now -/
def F42 : IFunc := ⟨1, 10, [.tmp 2], false,
 .seq (.reg [1] [⟨(some 1), none, .box (.t 0)⟩,
    ⟨(some 2), none, .nres 6⟩]) <|
 .seq (.reg [2] [⟨(some 3), none, .faddr 2 (.t 1)⟩,
    ⟨(some 4), none, .load false 1 (.t 3)⟩,
    ⟨(some 5), none, .faddr 3 (.t 1)⟩,
    ⟨(some 6), none, .load false 1 (.t 5)⟩,
    ⟨(some 7), none, .faddr 0 (.t 1)⟩,
    ⟨(some 8), none, .load false 1 (.t 7)⟩,
    ⟨(some 9), none, .call (.c (.g (.fn 62))) [(.t 4), (.t 6), (.t 8)]⟩,
    ⟨(some 2), none, .mov (.t 9)⟩]) <|
 .ret⟩
def h42 : List (List Nat) := [[1], [2]]
theorem c42 : cFunc Try.prog 42 false h42 = some F42 := by kernel_rfl

/-- baton/batonref05.Now -/
def F43 : IFunc := ⟨1, 10, [.tmp 2], false,
 .seq (.reg [1] [⟨(some 1), none, .box (.t 0)⟩,
    ⟨(some 2), none, .nres 6⟩]) <|
 .seq (.reg [2] [⟨(some 3), none, .faddr 2 (.t 1)⟩,
    ⟨(some 4), none, .load false 1 (.t 3)⟩,
    ⟨(some 5), none, .faddr 3 (.t 1)⟩,
    ⟨(some 6), none, .load false 1 (.t 5)⟩,
    ⟨(some 7), none, .faddr 0 (.t 1)⟩,
    ⟨(some 8), none, .load false 1 (.t 7)⟩,
    ⟨(some 9), none, .call (.c (.g (.fn 59))) [(.t 4), (.t 6), (.t 8)]⟩,
    ⟨(some 2), none, .mov (.t 9)⟩]) <|
 .ret⟩
def h43 : List (List Nat) := [[1], [2]]
theorem c43 : cFunc Try.prog 43 false h43 = some F43 := by kernel_rfl

/-- baton/batonlaw05.short -/
def L44_0 : IC :=
 .seq (.seq (.reg [0, 3, 7] [⟨(some 4), none, .mov (.t 3)⟩,
     ⟨(some 5), none, .mov (.t 0)⟩,
     ⟨(some 6), none, .len (.t 5)⟩,
     ⟨(some 7), none, .bin .lss (.t 4) (.t 6)⟩]) <|
  .cond [0, 3] (.t 7)
   (.skip)
   (.exit 0)) <|
 .seq (.block [0, 3] 1 <|
  .seq (.reg [0, 3, 25] [⟨(some 10), none, .mov (.t 0)⟩,
     ⟨(some 11), none, .mov (.t 3)⟩,
     ⟨(some 12), none, .iaddr 4 (.t 10) (.t 11)⟩,
     ⟨(some 13), none, .faddr 1 (.t 12)⟩,
     ⟨(some 14), none, .load false 1 (.t 13)⟩,
     ⟨(some 15), none, .lenS (.t 14)⟩,
     ⟨(some 16), none, .bin .gtr (.t 15) (.c (.g (.int .i64 60)))⟩,
     ⟨(some 17), none, .mov (.t 16)⟩,
     ⟨(some 18), (some (17, false)), .mov (.t 0)⟩,
     ⟨(some 19), (some (17, false)), .mov (.t 3)⟩,
     ⟨(some 20), (some (17, false)), .iaddr 4 (.t 18) (.t 19)⟩,
     ⟨(some 21), (some (17, false)), .faddr 2 (.t 20)⟩,
     ⟨(some 22), (some (17, false)), .load false 1 (.t 21)⟩,
     ⟨(some 23), (some (17, false)), .lenS (.t 22)⟩,
     ⟨(some 24), (some (17, false)), .bin .gtr (.t 23) (.c (.g (.int .i64 60)))⟩,
     ⟨(some 25), none, .pick (.t 17) (.c (.g (.bool true))) (.t 24)⟩]) <|
  .cond [0, 3] (.t 25)
   (.seq (.reg [2] [⟨(some 2), none, .mov (.c (.g (.bool false)))⟩]) <|
    .ret)
   (.skip)) <|
 .reg [0, 3] [⟨(some 8), none, .mov (.t 3)⟩,
   ⟨(some 9), none, .bin .add (.t 8) (.c (.g (.int .i64 1)))⟩,
   ⟨(some 3), none, .mov (.t 9)⟩]
def F44 : IFunc := ⟨1, 26, [.tmp 2], false,
 .seq (.reg [0] [⟨(some 2), none, .mov (.c (.g (.bool false)))⟩]) <|
 .seq (.seq (.reg [0, 3] [⟨(some 3), none, .mov (.c (.g (.int .i64 0)))⟩]) <|
  .block [] 0 <|
  .loop [0, 3] [] L44_0) <|
 .seq (.reg [2] [⟨(some 2), none, .mov (.c (.g (.bool true)))⟩]) <|
 .ret⟩
def h44 : List (List Nat) := [[0], [0, 3], [], [0, 3], [0, 3, 7], [0, 3], [0, 3], [0, 3, 25], [0, 3], [2], [0, 3], [2]]
theorem c44 : cFunc Try.prog 44 false h44 = some F44 := by kernel_rfl

/-- baton/mvcc.Apply -/
def F45 : IFunc := ⟨2, 55, [.cell 4 true 4, .tmp 5, .tmp 6], false,
 .seq (.reg [1, 2, 4] [⟨(some 2), none, .box (.t 0)⟩,
    ⟨(some 4), none, .alloc [.z (.int .i64 0), .z (.int .i64 0), .s 6, .s 8]⟩,
    ⟨(some 5), none, .nres 8⟩,
    ⟨(some 6), none, .mov (.c (.g (.int .i64 0)))⟩]) <|
 .seq (.seq (.reg [1, 2, 4, 11] [⟨(some 9), none, .mov (.t 1)⟩,
     ⟨(some 10), none, .call (.c (.g (.fn 67))) [(.t 9)]⟩,
     ⟨(some 11), none, .un .not (.t 10)⟩]) <|
  .cond [1, 2, 4] (.t 11)
   (.seq (.reg [4, 5, 6] [⟨(some 12), none, .load true 4 (.t 2)⟩,
       ⟨none, none, .store 4 (.t 4) (.t 12)⟩,
       ⟨(some 5), none, .nres 8⟩,
       ⟨(some 6), none, .mov (.c (.g (.int .i64 1)))⟩]) <|
    .ret)
   (.skip)) <|
 .seq (.drw [2, 4, 7, 8] 0 <|
  .take ⟨(some 14), none, .load true 4 (.t 2)⟩ <|
  .take ⟨(some 16), none, .mov (.t 1)⟩ <|
  .take ⟨(some 17), none, .faddr 0 (.t 2)⟩ <|
  .take ⟨(some 18), none, .load false 1 (.t 17)⟩ <|
  .take ⟨(some 19), none, .bin .add (.t 18) (.c (.g (.int .i64 1)))⟩ <|
  .one ⟨(some 15), none, .call (.c (.g (.fn 42))) [(.t 14)]⟩ <|
  .one ⟨(some 20), none, .call (.c (.g (.fn 68))) [(.t 15), (.t 16), (.t 19)]⟩ <|
  .take ⟨(some 13), none, .mov (.t 20)⟩ <|
  .take ⟨(some 21), none, .ext 0 (.t 13)⟩ <|
  .take ⟨(some 22), none, .ext 1 (.t 13)⟩ <|
  .free <|
  .take ⟨(some 7), none, .mov (.t 21)⟩ <|
  .take ⟨(some 8), none, .mov (.t 22)⟩ <|
  .leaf) <|
 .seq (.seq (.reg [2, 4, 7, 8, 25] [⟨(some 23), none, .mov (.t 7)⟩,
     ⟨(some 24), none, .len (.t 23)⟩,
     ⟨(some 25), none, .bin .eql (.t 24) (.c (.g (.int .i64 0)))⟩]) <|
  .cond [2, 4, 7, 8] (.t 25)
   (.seq (.reg [4, 5, 6] [⟨(some 26), none, .load true 4 (.t 2)⟩,
       ⟨none, none, .store 4 (.t 4) (.t 26)⟩,
       ⟨(some 5), none, .nres 8⟩,
       ⟨(some 6), none, .mov (.c (.g (.int .i64 0)))⟩]) <|
    .ret)
   (.skip)) <|
 .seq (.seq (.reg [2, 4, 7, 41] [⟨(some 27), none, .mov (.t 8)⟩,
     ⟨(some 28), none, .mov (.t 27)⟩,
     ⟨(some 29), (some (28, false)), .faddr 0 (.t 2)⟩,
     ⟨(some 30), (some (28, false)), .load false 1 (.t 29)⟩,
     ⟨(some 31), (some (28, false)), .bin .eql (.t 30) (.c (.g (.int .i64 1099511627774)))⟩,
     ⟨(some 32), none, .pick (.t 28) (.c (.g (.bool true))) (.t 31)⟩,
     ⟨(some 33), none, .mov (.t 32)⟩,
     ⟨(some 34), (some (33, false)), .faddr 3 (.t 2)⟩,
     ⟨(some 35), (some (33, false)), .load false 1 (.t 34)⟩,
     ⟨(some 36), (some (33, false)), .len (.t 35)⟩,
     ⟨(some 37), (some (33, false)), .mov (.t 7)⟩,
     ⟨(some 38), (some (33, false)), .len (.t 37)⟩,
     ⟨(some 39), (some (33, false)), .bin .add (.t 36) (.t 38)⟩,
     ⟨(some 40), (some (33, false)), .bin .gtr (.t 39) (.c (.g (.int .i64 60)))⟩,
     ⟨(some 41), none, .pick (.t 33) (.c (.g (.bool true))) (.t 40)⟩]) <|
  .cond [2, 4, 7] (.t 41)
   (.seq (.reg [4, 5, 6] [⟨(some 42), none, .load true 4 (.t 2)⟩,
       ⟨none, none, .store 4 (.t 4) (.t 42)⟩,
       ⟨(some 5), none, .nres 8⟩,
       ⟨(some 6), none, .mov (.c (.g (.int .i64 4)))⟩]) <|
    .ret)
   (.skip)) <|
 .seq (.reg [2, 4, 7] [⟨(some 43), none, .faddr 0 (.t 2)⟩,
    ⟨(some 44), none, .load false 1 (.t 43)⟩,
    ⟨(some 45), none, .bin .add (.t 44) (.c (.g (.int .i64 1)))⟩,
    ⟨(some 46), none, .faddr 0 (.t 2)⟩,
    ⟨none, none, .store 1 (.t 46) (.t 45)⟩]) <|
 .seq (.reg [2, 4, 7] [⟨(some 47), none, .faddr 3 (.t 2)⟩,
    ⟨(some 48), none, .load false 1 (.t 47)⟩,
    ⟨(some 49), none, .mov (.t 7)⟩,
    ⟨(some 50), none, .bslice 1 2 [.nsl] [(0, 1, (.t 48)), (1, 1, (.t 49))]⟩,
    ⟨(some 51), none, .call (.c (.g (.fn 69))) [(.t 50)]⟩,
    ⟨(some 52), none, .faddr 3 (.t 2)⟩,
    ⟨none, none, .store 1 (.t 52) (.t 51)⟩]) <|
 .seq (.reg [4, 5, 6] [⟨(some 53), none, .load true 4 (.t 2)⟩,
    ⟨(some 54), none, .mov (.t 7)⟩,
    ⟨none, none, .store 4 (.t 4) (.t 53)⟩,
    ⟨(some 5), none, .mov (.t 54)⟩,
    ⟨(some 6), none, .mov (.c (.g (.int .i64 0)))⟩]) <|
 .ret⟩
def h45 : List (List Nat) := [[1, 2, 4], [1, 2, 4, 11], [1, 2, 4], [4, 5, 6], [2, 4, 7, 8], [], [2, 4, 7, 8, 25], [2, 4, 7, 8], [4, 5, 6], [2, 4, 7, 41], [2, 4, 7], [4, 5, 6], [2, 4, 7], [2, 4, 7], [4, 5, 6]]
theorem c45 : cFunc Try.prog 45 false h45 = some F45 := by kernel_rfl

/-- baton/batonref05.Apply -/
def L46_0 : IC :=
 .seq (.seq (.reg [1, 2, 4, 7, 8, 9, 10, 11, 28] [⟨(some 25), none, .mov (.t 11)⟩,
     ⟨(some 26), none, .mov (.t 1)⟩,
     ⟨(some 27), none, .len (.t 26)⟩,
     ⟨(some 28), none, .bin .lss (.t 25) (.t 27)⟩]) <|
  .cond [1, 2, 4, 7, 8, 9, 10, 11] (.t 28)
   (.skip)
   (.exit 0)) <|
 .seq (.block [1, 2, 4, 7, 8, 9, 10, 11] 1 <|
  .seq (.reg [1, 2, 4, 7, 8, 9, 10, 11, 12, 13] [⟨(some 32), none, .mov (.t 7)⟩,
     ⟨(some 33), none, .mov (.t 1)⟩,
     ⟨(some 34), none, .mov (.t 11)⟩,
     ⟨(some 35), none, .iaddr 4 (.t 33) (.t 34)⟩,
     ⟨(some 36), none, .faddr 1 (.t 35)⟩,
     ⟨(some 37), none, .load false 1 (.t 36)⟩,
     ⟨(some 38), none, .call (.c (.g (.fn 49))) [(.t 32), (.t 37)]⟩,
     ⟨(some 31), none, .mov (.t 38)⟩,
     ⟨(some 39), none, .ext 0 (.t 31)⟩,
     ⟨(some 40), none, .ext 1 (.t 31)⟩,
     ⟨(some 12), none, .alloc [.z (.str []), .z (.str []), .z (.int .i64 0), .z (.int .i64 0), .z (.int .i64 0), .z (.int .i64 0)]⟩,
     ⟨none, none, .store 6 (.t 12) (.t 39)⟩,
     ⟨(some 13), none, .mov (.t 40)⟩]) <|
  .seq (.drw [1, 2, 4, 7, 8, 9, 10, 11, 12, 13, 14] 1 <|
   .take ⟨(some 41), none, .mov (.t 8)⟩ <|
   .take ⟨(some 42), none, .mov (.t 1)⟩ <|
   .take ⟨(some 43), none, .mov (.t 11)⟩ <|
   .take ⟨(some 44), none, .iaddr 4 (.t 42) (.t 43)⟩ <|
   .take ⟨(some 45), none, .faddr 0 (.t 44)⟩ <|
   .take ⟨(some 46), none, .load false 1 (.t 45)⟩ <|
   .take ⟨(some 47), none, .load true 6 (.t 12)⟩ <|
   .take ⟨(some 48), none, .build [.g (.int .i64 0), .g (.bool false), .g (.str []), .g (.str []), .g (.int .i64 0), .g (.int .i64 0), .g (.int .i64 0), .g (.int .i64 0)] [(0, 1, (.t 41)), (1, 1, (.t 46)), (2, 6, (.t 47))]⟩ <|
   .one ⟨(some 14), none, .allocAt 0 [.z (.int .i64 0), .z (.bool false), .z (.str []), .z (.str []), .z (.int .i64 0), .z (.int .i64 0), .z (.int .i64 0), .z (.int .i64 0)]⟩ <|
   .free <|
   .one ⟨none, none, .store 8 (.t 14) (.t 48)⟩ <|
   .leaf) <|
  .seq (.seq (.reg [1, 2, 4, 7, 8, 9, 10, 11, 12, 13, 14, 57] [⟨(some 49), none, .mov (.t 1)⟩,
      ⟨(some 50), none, .mov (.t 11)⟩,
      ⟨(some 51), none, .iaddr 4 (.t 49) (.t 50)⟩,
      ⟨(some 52), none, .faddr 0 (.t 51)⟩,
      ⟨(some 53), none, .load false 1 (.t 52)⟩,
      ⟨(some 54), none, .mov (.t 53)⟩,
      ⟨(some 55), (some (54, true)), .mov (.t 13)⟩,
      ⟨(some 56), (some (54, true)), .un .not (.t 55)⟩,
      ⟨(some 57), none, .pick (.t 54) (.t 56) (.c (.g (.bool false)))⟩]) <|
   .cond [1, 2, 4, 7, 8, 9, 10, 11, 12, 13, 14] (.t 57)
    (.exit 1)
    (.skip)) <|
  .seq (.seq (.reg [1, 2, 4, 7, 8, 9, 10, 11, 12, 13, 14, 63] [⟨(some 58), none, .mov (.t 1)⟩,
      ⟨(some 59), none, .mov (.t 11)⟩,
      ⟨(some 60), none, .iaddr 4 (.t 58) (.t 59)⟩,
      ⟨(some 61), none, .faddr 0 (.t 60)⟩,
      ⟨(some 62), none, .load false 1 (.t 61)⟩,
      ⟨(some 63), none, .un .not (.t 62)⟩]) <|
   .cond [1, 2, 4, 7, 8, 9, 10, 11, 14] (.t 63)
    (.seq (.drw [1, 2, 4, 7, 8, 9, 10, 11, 12, 13, 14] 0 <|
      .take ⟨(some 64), none, .mov (.t 1)⟩ <|
      .take ⟨(some 65), none, .mov (.t 11)⟩ <|
      .take ⟨(some 66), none, .iaddr 4 (.t 64) (.t 65)⟩ <|
      .take ⟨(some 67), none, .faddr 1 (.t 66)⟩ <|
      .take ⟨(some 68), none, .load false 1 (.t 67)⟩ <|
      .take ⟨(some 69), none, .mov (.t 1)⟩ <|
      .take ⟨(some 70), none, .mov (.t 11)⟩ <|
      .take ⟨(some 71), none, .iaddr 4 (.t 69) (.t 70)⟩ <|
      .take ⟨(some 72), none, .faddr 2 (.t 71)⟩ <|
      .take ⟨(some 73), none, .load false 1 (.t 72)⟩ <|
      .take ⟨(some 74), none, .mov (.t 8)⟩ <|
      .take ⟨(some 75), none, .mov (.t 8)⟩ <|
      .take ⟨(some 76), none, .mov (.t 1)⟩ <|
      .take ⟨(some 77), none, .mov (.t 11)⟩ <|
      .take ⟨(some 78), none, .iaddr 4 (.t 76) (.t 77)⟩ <|
      .take ⟨(some 79), none, .faddr 3 (.t 78)⟩ <|
      .take ⟨(some 80), none, .load false 1 (.t 79)⟩ <|
      .free <|
      .take ⟨(some 81), none, .build [.g (.str []), .g (.str []), .g (.int .i64 0), .g (.int .i64 0), .g (.int .i64 0), .g (.int .i64 0)] [(0, 1, (.t 68)), (1, 1, (.t 73)), (2, 1, (.t 74)), (3, 1, (.t 75)), (4, 1, (.c (.g (.int .i64 1)))), (5, 1, (.t 80))]⟩ <|
      .take ⟨(some 82), none, .faddr 2 (.t 14)⟩ <|
      .one ⟨none, none, .store 6 (.t 82) (.t 81)⟩ <|
      .leaf) <|
     .seq (.reg [1, 2, 4, 7, 8, 9, 10, 11, 12, 14, 83] [⟨(some 83), none, .mov (.t 13)⟩]) <|
     .cond [1, 2, 4, 7, 8, 9, 10, 11, 14] (.t 83)
      (.seq (.reg [1, 2, 4, 7, 8, 9, 10, 11, 12, 14] [⟨(some 84), none, .faddr 2 (.t 12)⟩,
          ⟨(some 85), none, .load false 1 (.t 84)⟩,
          ⟨(some 86), none, .faddr 2 (.t 14)⟩,
          ⟨(some 87), none, .faddr 2 (.t 86)⟩,
          ⟨none, none, .store 1 (.t 87) (.t 85)⟩]) <|
       .reg [1, 2, 4, 7, 8, 9, 10, 11, 14] [⟨(some 88), none, .faddr 4 (.t 12)⟩,
         ⟨(some 89), none, .load false 1 (.t 88)⟩,
         ⟨(some 90), none, .bin .add (.t 89) (.c (.g (.int .i64 1)))⟩,
         ⟨(some 91), none, .faddr 2 (.t 14)⟩,
         ⟨(some 92), none, .faddr 4 (.t 91)⟩,
         ⟨none, none, .store 1 (.t 92) (.t 90)⟩])
      (.skip))
    (.skip)) <|
  .seq (.reg [1, 2, 4, 7, 8, 9, 10, 11, 14] [⟨(some 93), none, .mov (.t 9)⟩,
     ⟨(some 94), none, .load true 8 (.t 14)⟩,
     ⟨(some 95), none, .bslice 8 1 [.int .i64 0, .bool false, .str [], .str [], .int .i64 0, .int .i64 0, .int .i64 0, .int .i64 0] [(0, 8, (.t 94))]⟩,
     ⟨(some 96), none, .app 8 80 (.t 93) (.t 95)⟩,
     ⟨(some 9), none, .mov (.t 96)⟩]) <|
  .seq (.reg [1, 2, 4, 7, 8, 9, 10, 11] [⟨(some 97), none, .mov (.t 7)⟩,
     ⟨(some 98), none, .load true 8 (.t 14)⟩,
     ⟨(some 99), none, .bslice 8 1 [.int .i64 0, .bool false, .str [], .str [], .int .i64 0, .int .i64 0, .int .i64 0, .int .i64 0] [(0, 8, (.t 98))]⟩,
     ⟨(some 100), none, .mov (.t 8)⟩,
     ⟨(some 101), none, .call (.c (.g (.fn 59))) [(.t 97), (.t 99), (.t 100)]⟩,
     ⟨(some 7), none, .mov (.t 101)⟩]) <|
  .reg [1, 2, 4, 7, 8, 9, 10, 11] [⟨(some 102), none, .mov (.t 10)⟩,
    ⟨(some 103), none, .mov (.t 102)⟩,
    ⟨(some 104), (some (103, false)), .mov (.t 7)⟩,
    ⟨(some 105), (some (103, false)), .len (.t 104)⟩,
    ⟨(some 106), (some (103, false)), .bin .gtr (.t 105) (.c (.g (.int .i64 30)))⟩,
    ⟨(some 107), none, .pick (.t 103) (.c (.g (.bool true))) (.t 106)⟩,
    ⟨(some 10), none, .mov (.t 107)⟩]) <|
 .reg [1, 2, 4, 7, 8, 9, 10, 11] [⟨(some 29), none, .mov (.t 11)⟩,
   ⟨(some 30), none, .bin .add (.t 29) (.c (.g (.int .i64 1)))⟩,
   ⟨(some 11), none, .mov (.t 30)⟩]
def F46 : IFunc := ⟨2, 143, [.cell 4 true 4, .tmp 5, .tmp 6], false,
 .seq (.reg [1, 2, 4] [⟨(some 2), none, .box (.t 0)⟩,
    ⟨(some 4), none, .alloc [.z (.int .i64 0), .z (.int .i64 0), .s 6, .s 8]⟩,
    ⟨(some 5), none, .nres 8⟩,
    ⟨(some 6), none, .mov (.c (.g (.int .i64 0)))⟩]) <|
 .seq (.seq (.reg [1, 2, 4, 18] [⟨(some 16), none, .mov (.t 1)⟩,
     ⟨(some 17), none, .call (.c (.g (.fn 70))) [(.t 16)]⟩,
     ⟨(some 18), none, .un .not (.t 17)⟩]) <|
  .cond [1, 2, 4] (.t 18)
   (.seq (.reg [4, 5, 6] [⟨(some 19), none, .load true 4 (.t 2)⟩,
       ⟨none, none, .store 4 (.t 4) (.t 19)⟩,
       ⟨(some 5), none, .nres 8⟩,
       ⟨(some 6), none, .mov (.c (.g (.int .i64 1)))⟩]) <|
    .ret)
   (.skip)) <|
 .seq (.reg [1, 2, 4, 7] [⟨(some 20), none, .load true 4 (.t 2)⟩,
    ⟨(some 21), none, .call (.c (.g (.fn 43))) [(.t 20)]⟩,
    ⟨(some 7), none, .mov (.t 21)⟩]) <|
 .seq (.reg [1, 2, 4, 7, 8] [⟨(some 22), none, .faddr 0 (.t 2)⟩,
    ⟨(some 23), none, .load false 1 (.t 22)⟩,
    ⟨(some 24), none, .bin .add (.t 23) (.c (.g (.int .i64 1)))⟩,
    ⟨(some 8), none, .mov (.t 24)⟩]) <|
 .seq (.reg [1, 2, 4, 7, 8, 9] [⟨(some 9), none, .nres 8⟩]) <|
 .seq (.reg [1, 2, 4, 7, 8, 9, 10] [⟨(some 10), none, .mov (.c (.g (.bool false)))⟩]) <|
 .seq (.seq (.reg [1, 2, 4, 7, 8, 9, 10, 11] [⟨(some 11), none, .mov (.c (.g (.int .i64 0)))⟩]) <|
  .block [2, 4, 8, 9, 10] 0 <|
  .loop [1, 2, 4, 7, 8, 9, 10, 11] [] L46_0) <|
 .seq (.seq (.reg [2, 4, 8, 9, 10, 110] [⟨(some 108), none, .mov (.t 9)⟩,
     ⟨(some 109), none, .len (.t 108)⟩,
     ⟨(some 110), none, .bin .eql (.t 109) (.c (.g (.int .i64 0)))⟩]) <|
  .cond [2, 4, 8, 9, 10] (.t 110)
   (.seq (.reg [4, 5, 6] [⟨(some 111), none, .load true 4 (.t 2)⟩,
       ⟨none, none, .store 4 (.t 4) (.t 111)⟩,
       ⟨(some 5), none, .nres 8⟩,
       ⟨(some 6), none, .mov (.c (.g (.int .i64 0)))⟩]) <|
    .ret)
   (.skip)) <|
 .seq (.seq (.reg [2, 4, 8, 9, 126] [⟨(some 112), none, .mov (.t 10)⟩,
     ⟨(some 113), none, .mov (.t 112)⟩,
     ⟨(some 114), (some (113, false)), .faddr 0 (.t 2)⟩,
     ⟨(some 115), (some (113, false)), .load false 1 (.t 114)⟩,
     ⟨(some 116), (some (113, false)), .bin .geq (.t 115) (.c (.g (.int .i64 1099511627774)))⟩,
     ⟨(some 117), none, .pick (.t 113) (.c (.g (.bool true))) (.t 116)⟩,
     ⟨(some 118), none, .mov (.t 117)⟩,
     ⟨(some 119), (some (118, false)), .faddr 3 (.t 2)⟩,
     ⟨(some 120), (some (118, false)), .load false 1 (.t 119)⟩,
     ⟨(some 121), (some (118, false)), .len (.t 120)⟩,
     ⟨(some 122), (some (118, false)), .mov (.t 9)⟩,
     ⟨(some 123), (some (118, false)), .len (.t 122)⟩,
     ⟨(some 124), (some (118, false)), .bin .add (.t 121) (.t 123)⟩,
     ⟨(some 125), (some (118, false)), .bin .gtr (.t 124) (.c (.g (.int .i64 60)))⟩,
     ⟨(some 126), none, .pick (.t 118) (.c (.g (.bool true))) (.t 125)⟩]) <|
  .cond [2, 4, 8, 9] (.t 126)
   (.seq (.reg [4, 5, 6] [⟨(some 127), none, .load true 4 (.t 2)⟩,
       ⟨none, none, .store 4 (.t 4) (.t 127)⟩,
       ⟨(some 5), none, .nres 8⟩,
       ⟨(some 6), none, .mov (.c (.g (.int .i64 4)))⟩]) <|
    .ret)
   (.skip)) <|
 .seq (.reg [2, 4, 8, 9, 15] [⟨(some 128), none, .load true 4 (.t 2)⟩,
    ⟨(some 15), none, .alloc [.z (.int .i64 0), .z (.int .i64 0), .s 6, .s 8]⟩,
    ⟨none, none, .store 4 (.t 15) (.t 128)⟩]) <|
 .seq (.reg [2, 4, 9, 15] [⟨(some 129), none, .mov (.t 8)⟩,
    ⟨(some 130), none, .faddr 0 (.t 15)⟩,
    ⟨none, none, .store 1 (.t 130) (.t 129)⟩]) <|
 .seq (.reg [4, 9, 15] [⟨(some 131), none, .mk0 8⟩,
    ⟨(some 132), none, .faddr 3 (.t 2)⟩,
    ⟨(some 133), none, .load false 1 (.t 132)⟩,
    ⟨(some 134), none, .app 8 80 (.t 131) (.t 133)⟩,
    ⟨(some 135), none, .faddr 3 (.t 15)⟩,
    ⟨none, none, .store 1 (.t 135) (.t 134)⟩]) <|
 .seq (.reg [4, 9, 15] [⟨(some 136), none, .faddr 3 (.t 15)⟩,
    ⟨(some 137), none, .load false 1 (.t 136)⟩,
    ⟨(some 138), none, .mov (.t 9)⟩,
    ⟨(some 139), none, .app 8 80 (.t 137) (.t 138)⟩,
    ⟨(some 140), none, .faddr 3 (.t 15)⟩,
    ⟨none, none, .store 1 (.t 140) (.t 139)⟩]) <|
 .seq (.reg [4, 5, 6] [⟨(some 141), none, .load true 4 (.t 15)⟩,
    ⟨(some 142), none, .mov (.t 9)⟩,
    ⟨none, none, .store 4 (.t 4) (.t 141)⟩,
    ⟨(some 5), none, .mov (.t 142)⟩,
    ⟨(some 6), none, .mov (.c (.g (.int .i64 0)))⟩]) <|
 .ret⟩
def h46 : List (List Nat) := [[1, 2, 4], [1, 2, 4, 18], [1, 2, 4], [4, 5, 6], [1, 2, 4, 7], [1, 2, 4, 7, 8], [1, 2, 4, 7, 8, 9], [1, 2, 4, 7, 8, 9, 10], [1, 2, 4, 7, 8, 9, 10, 11], [2, 4, 8, 9, 10], [1, 2, 4, 7, 8, 9, 10, 11], [1, 2, 4, 7, 8, 9, 10, 11, 28], [1, 2, 4, 7, 8, 9, 10, 11], [1, 2, 4, 7, 8, 9, 10, 11], [1, 2, 4, 7, 8, 9, 10, 11, 12, 13], [1, 2, 4, 7, 8, 9, 10, 11, 12, 13, 14], [], [1, 2, 4, 7, 8, 9, 10, 11, 12, 13, 14, 57], [1, 2, 4, 7, 8, 9, 10, 11, 12, 13, 14], [1, 2, 4, 7, 8, 9, 10, 11, 12, 13, 14, 63], [1, 2, 4, 7, 8, 9, 10, 11, 14], [1, 2, 4, 7, 8, 9, 10, 11, 12, 13, 14], [], [1, 2, 4, 7, 8, 9, 10, 11, 12, 14, 83], [1, 2, 4, 7, 8, 9, 10, 11, 14], [1, 2, 4, 7, 8, 9, 10, 11, 12, 14], [1, 2, 4, 7, 8, 9, 10, 11, 14], [1, 2, 4, 7, 8, 9, 10, 11, 14], [1, 2, 4, 7, 8, 9, 10, 11], [1, 2, 4, 7, 8, 9, 10, 11], [1, 2, 4, 7, 8, 9, 10, 11], [2, 4, 8, 9, 10, 110], [2, 4, 8, 9, 10], [4, 5, 6], [2, 4, 8, 9, 126], [2, 4, 8, 9], [4, 5, 6], [2, 4, 8, 9, 15], [2, 4, 9, 15], [4, 9, 15], [4, 9, 15], [4, 5, 6]]
theorem c46 : cFunc Try.prog 46 false h46 = some F46 := by kernel_rfl

/-- baton/mvcc.Shrink -/
def F47 : IFunc := ⟨2, 38, [.cell 4 true 4, .tmp 5], false,
 .seq (.reg [2, 3, 4] [⟨(some 2), none, .box (.t 0)⟩,
    ⟨(some 3), none, .box (.t 1)⟩,
    ⟨(some 4), none, .alloc [.z (.int .i64 0), .z (.int .i64 0), .s 6, .s 8]⟩,
    ⟨(some 5), none, .mov (.c (.g (.int .i64 0)))⟩]) <|
 .seq (.block [2, 3, 4] 0 <|
  .seq (.reg [2, 3, 4, 6] [⟨(some 7), none, .load false 1 (.t 3)⟩,
     ⟨(some 8), none, .bin .lss (.t 7) (.c (.g (.int .i64 0)))⟩,
     ⟨(some 9), none, .mov (.t 8)⟩,
     ⟨(some 10), (some (9, false)), .load false 1 (.t 3)⟩,
     ⟨(some 11), (some (9, false)), .faddr 0 (.t 2)⟩,
     ⟨(some 12), (some (9, false)), .load false 1 (.t 11)⟩,
     ⟨(some 13), (some (9, false)), .bin .gtr (.t 10) (.t 12)⟩,
     ⟨(some 14), none, .pick (.t 9) (.c (.g (.bool true))) (.t 13)⟩,
     ⟨(some 6), none, .mov (.t 14)⟩]) <|
  .cond [2, 3, 4] (.t 6)
   (.seq (.reg [4, 5] [⟨(some 15), none, .load true 4 (.t 2)⟩,
       ⟨none, none, .store 4 (.t 4) (.t 15)⟩,
       ⟨(some 5), none, .mov (.c (.g (.int .i64 8)))⟩]) <|
    .ret)
   (.seq (.reg [2, 3, 4, 16] [⟨(some 17), none, .load false 1 (.t 3)⟩,
       ⟨(some 18), none, .faddr 1 (.t 2)⟩,
       ⟨(some 19), none, .load false 1 (.t 18)⟩,
       ⟨(some 20), none, .bin .lss (.t 17) (.t 19)⟩,
       ⟨(some 16), none, .mov (.t 20)⟩]) <|
    .cond [2, 3, 4] (.t 16)
     (.seq (.reg [4, 5] [⟨(some 21), none, .load true 4 (.t 2)⟩,
         ⟨none, none, .store 4 (.t 4) (.t 21)⟩,
         ⟨(some 5), none, .mov (.c (.g (.int .i64 9)))⟩]) <|
      .ret)
     (.skip))) <|
 .seq (.reg [2, 3, 4] [⟨(some 22), none, .faddr 2 (.t 2)⟩,
    ⟨(some 23), none, .load false 1 (.t 22)⟩,
    ⟨(some 24), none, .faddr 3 (.t 2)⟩,
    ⟨(some 25), none, .load false 1 (.t 24)⟩,
    ⟨(some 26), none, .load false 1 (.t 3)⟩,
    ⟨(some 27), none, .call (.c (.g (.fn 62))) [(.t 23), (.t 25), (.t 26)]⟩,
    ⟨(some 28), none, .faddr 2 (.t 2)⟩,
    ⟨none, none, .store 1 (.t 28) (.t 27)⟩]) <|
 .seq (.reg [2, 3, 4] [⟨(some 29), none, .load false 1 (.t 3)⟩,
    ⟨(some 30), none, .faddr 1 (.t 2)⟩,
    ⟨none, none, .store 1 (.t 30) (.t 29)⟩]) <|
 .seq (.reg [2, 4] [⟨(some 31), none, .faddr 3 (.t 2)⟩,
    ⟨(some 32), none, .load false 1 (.t 31)⟩,
    ⟨(some 33), none, .call (.c (.g (.fn 72))) [(.t 32)]⟩,
    ⟨(some 34), none, .mkfn 73 [(.t 3)]⟩,
    ⟨(some 35), none, .call (.c (.g (.fn 71))) [(.t 33), (.t 34)]⟩,
    ⟨(some 36), none, .faddr 3 (.t 2)⟩,
    ⟨none, none, .store 1 (.t 36) (.t 35)⟩]) <|
 .seq (.reg [4, 5] [⟨(some 37), none, .load true 4 (.t 2)⟩,
    ⟨none, none, .store 4 (.t 4) (.t 37)⟩,
    ⟨(some 5), none, .mov (.c (.g (.int .i64 0)))⟩]) <|
 .ret⟩
def h47 : List (List Nat) := [[2, 3, 4], [2, 3, 4], [2, 3, 4, 6], [2, 3, 4], [4, 5], [2, 3, 4, 16], [2, 3, 4], [4, 5], [2, 3, 4], [2, 3, 4], [2, 4], [4, 5]]
theorem c47 : cFunc Try.prog 47 false h47 = some F47 := by kernel_rfl

/-- baton/batonref05.Shrink -/
def L48_0 : IC :=
 .seq (.seq (.reg [1, 2, 4, 6, 7, 36] [⟨(some 32), none, .mov (.t 7)⟩,
     ⟨(some 33), none, .faddr 3 (.t 2)⟩,
     ⟨(some 34), none, .load false 1 (.t 33)⟩,
     ⟨(some 35), none, .len (.t 34)⟩,
     ⟨(some 36), none, .bin .lss (.t 32) (.t 35)⟩]) <|
  .cond [1, 2, 4, 6, 7] (.t 36)
   (.skip)
   (.exit 0)) <|
 .seq (.block [1, 2, 4, 6, 7] 1 <|
  .seq (.reg [1, 2, 4, 6, 7, 46] [⟨(some 39), none, .faddr 3 (.t 2)⟩,
     ⟨(some 40), none, .load false 1 (.t 39)⟩,
     ⟨(some 41), none, .mov (.t 7)⟩,
     ⟨(some 42), none, .iaddr 8 (.t 40) (.t 41)⟩,
     ⟨(some 43), none, .faddr 0 (.t 42)⟩,
     ⟨(some 44), none, .load false 1 (.t 43)⟩,
     ⟨(some 45), none, .mov (.t 1)⟩,
     ⟨(some 46), none, .bin .gtr (.t 44) (.t 45)⟩]) <|
  .cond [1, 2, 4, 6, 7] (.t 46)
   (.drw [1, 2, 4, 6, 7] 0 <|
    .take ⟨(some 47), none, .faddr 3 (.t 6)⟩ <|
    .take ⟨(some 48), none, .load false 1 (.t 47)⟩ <|
    .take ⟨(some 49), none, .faddr 3 (.t 2)⟩ <|
    .take ⟨(some 50), none, .load false 1 (.t 49)⟩ <|
    .take ⟨(some 51), none, .mov (.t 7)⟩ <|
    .take ⟨(some 52), none, .iaddr 8 (.t 50) (.t 51)⟩ <|
    .take ⟨(some 53), none, .load true 8 (.t 52)⟩ <|
    .one ⟨(some 54), none, .bslice 8 1 [.int .i64 0, .bool false, .str [], .str [], .int .i64 0, .int .i64 0, .int .i64 0, .int .i64 0] [(0, 8, (.t 53))]⟩ <|
    .one ⟨(some 55), none, .app 8 80 (.t 48) (.t 54)⟩ <|
    .free <|
    .take ⟨(some 56), none, .faddr 3 (.t 6)⟩ <|
    .one ⟨none, none, .store 1 (.t 56) (.t 55)⟩ <|
    .leaf)
   (.skip)) <|
 .reg [1, 2, 4, 6, 7] [⟨(some 37), none, .mov (.t 7)⟩,
   ⟨(some 38), none, .bin .add (.t 37) (.c (.g (.int .i64 1)))⟩,
   ⟨(some 7), none, .mov (.t 38)⟩]
def F48 : IFunc := ⟨2, 58, [.cell 4 true 4, .tmp 5], false,
 .seq (.reg [1, 2, 4] [⟨(some 2), none, .box (.t 0)⟩,
    ⟨(some 4), none, .alloc [.z (.int .i64 0), .z (.int .i64 0), .s 6, .s 8]⟩,
    ⟨(some 5), none, .mov (.c (.g (.int .i64 0)))⟩]) <|
 .seq (.seq (.reg [1, 2, 4, 15] [⟨(some 8), none, .mov (.t 1)⟩,
     ⟨(some 9), none, .bin .lss (.t 8) (.c (.g (.int .i64 0)))⟩,
     ⟨(some 10), none, .mov (.t 9)⟩,
     ⟨(some 11), (some (10, false)), .mov (.t 1)⟩,
     ⟨(some 12), (some (10, false)), .faddr 0 (.t 2)⟩,
     ⟨(some 13), (some (10, false)), .load false 1 (.t 12)⟩,
     ⟨(some 14), (some (10, false)), .bin .gtr (.t 11) (.t 13)⟩,
     ⟨(some 15), none, .pick (.t 10) (.c (.g (.bool true))) (.t 14)⟩]) <|
  .cond [1, 2, 4] (.t 15)
   (.seq (.reg [4, 5] [⟨(some 16), none, .load true 4 (.t 2)⟩,
       ⟨none, none, .store 4 (.t 4) (.t 16)⟩,
       ⟨(some 5), none, .mov (.c (.g (.int .i64 8)))⟩]) <|
    .ret)
   (.skip)) <|
 .seq (.seq (.reg [1, 2, 4, 20] [⟨(some 17), none, .mov (.t 1)⟩,
     ⟨(some 18), none, .faddr 1 (.t 2)⟩,
     ⟨(some 19), none, .load false 1 (.t 18)⟩,
     ⟨(some 20), none, .bin .lss (.t 17) (.t 19)⟩]) <|
  .cond [1, 2, 4] (.t 20)
   (.seq (.reg [4, 5] [⟨(some 21), none, .load true 4 (.t 2)⟩,
       ⟨none, none, .store 4 (.t 4) (.t 21)⟩,
       ⟨(some 5), none, .mov (.c (.g (.int .i64 9)))⟩]) <|
    .ret)
   (.skip)) <|
 .seq (.drw [1, 2, 4, 6] 1 <|
  .take ⟨(some 22), none, .faddr 0 (.t 2)⟩ <|
  .take ⟨(some 23), none, .load false 1 (.t 22)⟩ <|
  .take ⟨(some 24), none, .mov (.t 1)⟩ <|
  .take ⟨(some 25), none, .faddr 2 (.t 2)⟩ <|
  .take ⟨(some 26), none, .load false 1 (.t 25)⟩ <|
  .take ⟨(some 27), none, .faddr 3 (.t 2)⟩ <|
  .take ⟨(some 28), none, .load false 1 (.t 27)⟩ <|
  .take ⟨(some 29), none, .mov (.t 1)⟩ <|
  .alt ⟨(some 30), none, .call (.c (.g (.fn 59))) [(.t 26), (.t 28), (.t 29)]⟩
  (.take ⟨(some 31), none, .build [.g (.int .i64 0), .g (.int .i64 0), .g (.nsl), .g (.nsl)] [(0, 1, (.t 23)), (1, 1, (.t 24)), (2, 1, (.t 30))]⟩ <|
   .one ⟨(some 6), none, .allocAt 0 [.z (.int .i64 0), .z (.int .i64 0), .s 6, .s 8]⟩ <|
   .free <|
   .one ⟨none, none, .store 4 (.t 6) (.t 31)⟩ <|
   .leaf)
  (.one ⟨(some 6), none, .allocAt 0 [.z (.int .i64 0), .z (.int .i64 0), .s 6, .s 8]⟩ <|
   .one ⟨(some 30), none, .call (.c (.g (.fn 59))) [(.t 26), (.t 28), (.t 29)]⟩ <|
   .take ⟨(some 31), none, .build [.g (.int .i64 0), .g (.int .i64 0), .g (.nsl), .g (.nsl)] [(0, 1, (.t 23)), (1, 1, (.t 24)), (2, 1, (.t 30))]⟩ <|
   .free <|
   .one ⟨none, none, .store 4 (.t 6) (.t 31)⟩ <|
   .leaf)) <|
 .seq (.seq (.reg [1, 2, 4, 6, 7] [⟨(some 7), none, .mov (.c (.g (.int .i64 0)))⟩]) <|
  .block [4, 6] 0 <|
  .loop [1, 2, 4, 6, 7] [] L48_0) <|
 .seq (.reg [4, 5] [⟨(some 57), none, .load true 4 (.t 6)⟩,
    ⟨none, none, .store 4 (.t 4) (.t 57)⟩,
    ⟨(some 5), none, .mov (.c (.g (.int .i64 0)))⟩]) <|
 .ret⟩
def h48 : List (List Nat) := [[1, 2, 4], [1, 2, 4, 15], [1, 2, 4], [4, 5], [1, 2, 4, 20], [1, 2, 4], [4, 5], [1, 2, 4, 6], [], [1, 2, 4, 6, 7], [4, 6], [1, 2, 4, 6, 7], [1, 2, 4, 6, 7, 36], [1, 2, 4, 6, 7], [1, 2, 4, 6, 7], [1, 2, 4, 6, 7, 46], [1, 2, 4, 6, 7], [1, 2, 4, 6, 7], [], [1, 2, 4, 6, 7], [4, 5]]
theorem c48 : cFunc Try.prog 48 false h48 = some F48 := by kernel_rfl

/-- baton/batonref04.Find -/
def L49_0 : IC :=
 .seq (.seq (.reg [0, 1, 4, 6, 10] [⟨(some 7), none, .mov (.t 6)⟩,
     ⟨(some 8), none, .mov (.t 0)⟩,
     ⟨(some 9), none, .len (.t 8)⟩,
     ⟨(some 10), none, .bin .lss (.t 7) (.t 9)⟩]) <|
  .cond [0, 1, 4, 6] (.t 10)
   (.skip)
   (.exit 0)) <|
 .seq (.block [0, 1, 4, 6] 1 <|
  .seq (.reg [0, 1, 4, 6, 19] [⟨(some 13), none, .mov (.t 0)⟩,
     ⟨(some 14), none, .mov (.t 6)⟩,
     ⟨(some 15), none, .iaddr 6 (.t 13) (.t 14)⟩,
     ⟨(some 16), none, .faddr 0 (.t 15)⟩,
     ⟨(some 17), none, .load false 1 (.t 16)⟩,
     ⟨(some 18), none, .mov (.t 1)⟩,
     ⟨(some 19), none, .bin .eql (.t 17) (.t 18)⟩]) <|
  .cond [0, 1, 4, 6] (.t 19)
   (.seq (.reg [4, 5] [⟨(some 20), none, .mov (.t 0)⟩,
       ⟨(some 21), none, .mov (.t 6)⟩,
       ⟨(some 22), none, .iaddr 6 (.t 20) (.t 21)⟩,
       ⟨(some 23), none, .load true 6 (.t 22)⟩,
       ⟨none, none, .store 6 (.t 4) (.t 23)⟩,
       ⟨(some 5), none, .mov (.c (.g (.bool true)))⟩]) <|
    .ret)
   (.skip)) <|
 .reg [0, 1, 4, 6] [⟨(some 11), none, .mov (.t 6)⟩,
   ⟨(some 12), none, .bin .add (.t 11) (.c (.g (.int .i64 1)))⟩,
   ⟨(some 6), none, .mov (.t 12)⟩]
def F49 : IFunc := ⟨2, 25, [.cell 4 true 6, .tmp 5], false,
 .seq (.reg [0, 1, 4] [⟨(some 4), none, .alloc [.z (.str []), .z (.str []), .z (.int .i64 0), .z (.int .i64 0), .z (.int .i64 0), .z (.int .i64 0)]⟩,
    ⟨(some 5), none, .mov (.c (.g (.bool false)))⟩]) <|
 .seq (.seq (.reg [0, 1, 4, 6] [⟨(some 6), none, .mov (.c (.g (.int .i64 0)))⟩]) <|
  .block [4] 0 <|
  .loop [0, 1, 4, 6] [] L49_0) <|
 .seq (.reg [4, 5] [⟨(some 24), none, .build [.g (.str []), .g (.str []), .g (.int .i64 0), .g (.int .i64 0), .g (.int .i64 0), .g (.int .i64 0)] []⟩,
    ⟨none, none, .store 6 (.t 4) (.t 24)⟩,
    ⟨(some 5), none, .mov (.c (.g (.bool false)))⟩]) <|
 .ret⟩
def h49 : List (List Nat) := [[0, 1, 4], [0, 1, 4, 6], [4], [0, 1, 4, 6], [0, 1, 4, 6, 10], [0, 1, 4, 6], [0, 1, 4, 6], [0, 1, 4, 6, 19], [0, 1, 4, 6], [4, 5], [0, 1, 4, 6], [4, 5]]
theorem c49 : cFunc Try.prog 49 false h49 = some F49 := by kernel_rfl

/-- baton/batonlaw06.TxnSwaps$1 -/
def F50 : IFunc := ⟨3, 15, [.cell 4 true 3], false,
 .seq (.reg [0, 1, 2, 4] [⟨(some 4), none, .alloc [.s 5, .s 4, .s 4]⟩]) <|
 .seq (.reg [4] [⟨(some 5), none, .load false 1 (.t 1)⟩,
    ⟨(some 6), none, .faddr 3 (.t 2)⟩,
    ⟨(some 7), none, .load false 1 (.t 6)⟩,
    ⟨(some 8), none, .build [.g (.str []), .g (.int .i64 0), .g (.int .i64 0), .g (.int .i64 0), .g (.str [])] [(0, 1, (.t 5)), (1, 1, (.c (.g (.int .i64 2)))), (2, 1, (.c (.g (.int .i64 1)))), (3, 1, (.t 7))]⟩,
    ⟨(some 9), none, .bslice 5 1 [.str [], .int .i64 0, .int .i64 0, .int .i64 0, .str []] [(0, 5, (.t 8))]⟩,
    ⟨(some 10), none, .load false 1 (.t 1)⟩,
    ⟨(some 11), none, .mov (.t 0)⟩,
    ⟨(some 12), none, .build [.g (.bool false), .g (.str []), .g (.str []), .g (.int .i64 0)] [(1, 1, (.t 10)), (2, 1, (.t 11))]⟩,
    ⟨(some 13), none, .bslice 4 1 [.bool false, .str [], .str [], .int .i64 0] [(0, 4, (.t 12))]⟩,
    ⟨(some 14), none, .build [.g (.nsl), .g (.nsl), .g (.nsl)] [(0, 1, (.t 9)), (1, 1, (.t 13))]⟩,
    ⟨none, none, .store 3 (.t 4) (.t 14)⟩]) <|
 .ret⟩
def h50 : List (List Nat) := [[0, 1, 2, 4], [4]]
theorem c50 : cFunc Try.prog 50 false h50 = some F50 := by kernel_rfl

/-- baton/mvcc.New -/
def F51 : IFunc := ⟨0, 2, [.cell 0 true 4], false,
 .seq (.reg [0] [⟨(some 0), none, .alloc [.z (.int .i64 0), .z (.int .i64 0), .s 6, .s 8]⟩]) <|
 .seq (.reg [0] [⟨(some 1), none, .build [.g (.int .i64 0), .g (.int .i64 0), .g (.nsl), .g (.nsl)] []⟩,
    ⟨none, none, .store 4 (.t 0) (.t 1)⟩]) <|
 .ret⟩
def h51 : List (List Nat) := [[0], [0]]
theorem c51 : cFunc Try.prog 51 false h51 = some F51 := by kernel_rfl

/-- baton/txn.may -/
def F52 : IFunc := ⟨1, 21, [.tmp 2], false,
 .seq (.reg [1] [⟨(some 1), none, .box (.t 0)⟩,
    ⟨(some 2), none, .mov (.c (.g (.bool false)))⟩]) <|
 .seq (.reg [2] [⟨(some 3), none, .faddr 1 (.t 1)⟩,
    ⟨(some 4), none, .load false 1 (.t 3)⟩,
    ⟨(some 5), none, .bin .geq (.t 4) (.c (.g (.int .i64 1)))⟩,
    ⟨(some 6), none, .mov (.t 5)⟩,
    ⟨(some 7), (some (6, true)), .faddr 1 (.t 1)⟩,
    ⟨(some 8), (some (6, true)), .load false 1 (.t 7)⟩,
    ⟨(some 9), (some (6, true)), .bin .leq (.t 8) (.c (.g (.int .i64 4)))⟩,
    ⟨(some 10), none, .pick (.t 6) (.t 9) (.c (.g (.bool false)))⟩,
    ⟨(some 11), none, .mov (.t 10)⟩,
    ⟨(some 12), (some (11, true)), .faddr 2 (.t 1)⟩,
    ⟨(some 13), (some (11, true)), .load false 1 (.t 12)⟩,
    ⟨(some 14), (some (11, true)), .bin .geq (.t 13) (.c (.g (.int .i64 1)))⟩,
    ⟨(some 15), none, .pick (.t 11) (.t 14) (.c (.g (.bool false)))⟩,
    ⟨(some 16), none, .mov (.t 15)⟩,
    ⟨(some 17), (some (16, true)), .faddr 2 (.t 1)⟩,
    ⟨(some 18), (some (16, true)), .load false 1 (.t 17)⟩,
    ⟨(some 19), (some (16, true)), .bin .leq (.t 18) (.c (.g (.int .i64 3)))⟩,
    ⟨(some 20), none, .pick (.t 16) (.t 19) (.c (.g (.bool false)))⟩,
    ⟨(some 2), none, .mov (.t 20)⟩]) <|
 .ret⟩
def h52 : List (List Nat) := [[1], [2]]
theorem c52 : cFunc Try.prog 52 false h52 = some F52 := by kernel_rfl

/-- baton/hist.Find -/
def F53 : IFunc := ⟨2, 18, [.cell 4 true 6, .tmp 5], false,
 .seq (.reg [0, 1, 4] [⟨(some 4), none, .alloc [.z (.str []), .z (.str []), .z (.int .i64 0), .z (.int .i64 0), .z (.int .i64 0), .z (.int .i64 0)]⟩,
    ⟨(some 5), none, .mov (.c (.g (.bool false)))⟩]) <|
 .seq (.reg [0, 4, 6] [⟨(some 7), none, .mov (.t 0)⟩,
    ⟨(some 8), none, .mov (.t 1)⟩,
    ⟨(some 9), none, .call (.c (.g (.fn 75))) [(.t 8)]⟩,
    ⟨(some 10), none, .call (.c (.g (.fn 74))) [(.t 7), (.t 9)]⟩,
    ⟨(some 6), none, .mov (.t 10)⟩]) <|
 .seq (.seq (.reg [0, 4, 6, 12] [⟨(some 11), none, .mov (.t 6)⟩,
     ⟨(some 12), none, .bin .lss (.t 11) (.c (.g (.int .i64 0)))⟩]) <|
  .cond [0, 4, 6] (.t 12)
   (.seq (.reg [4, 5] [⟨(some 13), none, .build [.g (.str []), .g (.str []), .g (.int .i64 0), .g (.int .i64 0), .g (.int .i64 0), .g (.int .i64 0)] []⟩,
       ⟨none, none, .store 6 (.t 4) (.t 13)⟩,
       ⟨(some 5), none, .mov (.c (.g (.bool false)))⟩]) <|
    .ret)
   (.skip)) <|
 .seq (.reg [4, 5] [⟨(some 14), none, .mov (.t 0)⟩,
    ⟨(some 15), none, .mov (.t 6)⟩,
    ⟨(some 16), none, .iaddr 6 (.t 14) (.t 15)⟩,
    ⟨(some 17), none, .load true 6 (.t 16)⟩,
    ⟨none, none, .store 6 (.t 4) (.t 17)⟩,
    ⟨(some 5), none, .mov (.c (.g (.bool true)))⟩]) <|
 .ret⟩
def h53 : List (List Nat) := [[0, 1, 4], [0, 4, 6], [0, 4, 6, 12], [0, 4, 6], [4, 5], [4, 5]]
theorem c53 : cFunc Try.prog 53 false h53 = some F53 := by kernel_rfl

/-- baton/txn.ways -/
def F54 : IFunc := ⟨0, 2, [.cell 0 true 5], true,
 .seq (.reg [0] [⟨(some 0), none, .alloc [.z (.nfn), .z (.nfn), .z (.nfn), .z (.nfn), .z (.nfn)]⟩]) <|
 .seq (.reg [0] [⟨(some 1), none, .build [.g (.nfn), .g (.nfn), .g (.nfn), .g (.nfn), .g (.nfn)] [(1, 1, (.c (.g (.fn 76)))), (2, 1, (.c (.g (.fn 77)))), (3, 1, (.c (.g (.fn 78)))), (4, 1, (.c (.g (.fn 79))))]⟩,
    ⟨none, none, .store 5 (.t 0) (.t 1)⟩]) <|
 .ret⟩
def h54 : List (List Nat) := [[0], [0]]
theorem c54 : cFunc Try.prog 54 true h54 = some F54 := by kernel_rfl

/-- baton/batonref06.number -/
def F55 : IFunc := ⟨3, 32, [.tmp 6], false,
 .seq (.reg [0, 1, 2] [⟨(some 6), none, .mov (.c (.g (.bool false)))⟩]) <|
 .seq (.reg [6] [⟨(some 7), none, .mov (.t 1)⟩,
    ⟨(some 8), none, .bin .eql (.t 7) (.c (.g (.int .i64 1)))⟩,
    ⟨(some 9), none, .mov (.t 8)⟩,
    ⟨(some 10), (some (9, true)), .mov (.t 0)⟩,
    ⟨(some 11), (some (9, true)), .mov (.t 2)⟩,
    ⟨(some 12), (some (9, true)), .bin .eql (.t 10) (.t 11)⟩,
    ⟨(some 13), none, .pick (.t 9) (.t 12) (.c (.g (.bool false)))⟩,
    ⟨(some 14), none, .mov (.t 13)⟩,
    ⟨(some 15), (some (14, false)), .mov (.t 1)⟩,
    ⟨(some 16), (some (14, false)), .bin .eql (.t 15) (.c (.g (.int .i64 2)))⟩,
    ⟨(some 17), (some (14, false)), .mov (.t 16)⟩,
    ⟨(some 18), (some (17, true)), .mov (.t 0)⟩,
    ⟨(some 19), (some (17, true)), .mov (.t 2)⟩,
    ⟨(some 20), (some (17, true)), .bin .lss (.t 18) (.t 19)⟩,
    ⟨(some 21), (some (14, false)), .pick (.t 17) (.t 20) (.c (.g (.bool false)))⟩,
    ⟨(some 22), none, .pick (.t 14) (.c (.g (.bool true))) (.t 21)⟩,
    ⟨(some 23), none, .mov (.t 22)⟩,
    ⟨(some 24), (some (23, false)), .mov (.t 1)⟩,
    ⟨(some 25), (some (23, false)), .bin .eql (.t 24) (.c (.g (.int .i64 3)))⟩,
    ⟨(some 26), (some (23, false)), .mov (.t 25)⟩,
    ⟨(some 27), (some (26, true)), .mov (.t 0)⟩,
    ⟨(some 28), (some (26, true)), .mov (.t 2)⟩,
    ⟨(some 29), (some (26, true)), .bin .gtr (.t 27) (.t 28)⟩,
    ⟨(some 30), (some (23, false)), .pick (.t 26) (.t 29) (.c (.g (.bool false)))⟩,
    ⟨(some 31), none, .pick (.t 23) (.c (.g (.bool true))) (.t 30)⟩,
    ⟨(some 6), none, .mov (.t 31)⟩]) <|
 .ret⟩
def h55 : List (List Nat) := [[0, 1, 2], [6]]
theorem c55 : cFunc Try.prog 55 false h55 = some F55 := by kernel_rfl

/-- baton/batonref03.FewEvents -/
def L56_0 : IC :=
 .seq (.seq (.reg [0, 5, 13] [⟨(some 10), none, .mov (.t 5)⟩,
     ⟨(some 11), none, .mov (.t 0)⟩,
     ⟨(some 12), none, .len (.t 11)⟩,
     ⟨(some 13), none, .bin .lss (.t 10) (.t 12)⟩]) <|
  .cond [0, 5] (.t 13)
   (.skip)
   (.exit 0)) <|
 .seq (.block [0, 5] 1 <|
  .seq (.reg [0, 5, 33] [⟨(some 16), none, .mov (.t 0)⟩,
     ⟨(some 17), none, .mov (.t 5)⟩,
     ⟨(some 18), none, .iaddr 8 (.t 16) (.t 17)⟩,
     ⟨(some 19), none, .faddr 2 (.t 18)⟩,
     ⟨(some 20), none, .faddr 0 (.t 19)⟩,
     ⟨(some 21), none, .load false 1 (.t 20)⟩,
     ⟨(some 22), none, .lenS (.t 21)⟩,
     ⟨(some 23), none, .bin .gtr (.t 22) (.c (.g (.int .i64 60)))⟩,
     ⟨(some 24), none, .mov (.t 23)⟩,
     ⟨(some 25), (some (24, false)), .mov (.t 0)⟩,
     ⟨(some 26), (some (24, false)), .mov (.t 5)⟩,
     ⟨(some 27), (some (24, false)), .iaddr 8 (.t 25) (.t 26)⟩,
     ⟨(some 28), (some (24, false)), .faddr 2 (.t 27)⟩,
     ⟨(some 29), (some (24, false)), .faddr 1 (.t 28)⟩,
     ⟨(some 30), (some (24, false)), .load false 1 (.t 29)⟩,
     ⟨(some 31), (some (24, false)), .lenS (.t 30)⟩,
     ⟨(some 32), (some (24, false)), .bin .gtr (.t 31) (.c (.g (.int .i64 60)))⟩,
     ⟨(some 33), none, .pick (.t 24) (.c (.g (.bool true))) (.t 32)⟩]) <|
  .cond [0, 5] (.t 33)
   (.seq (.reg [4] [⟨(some 4), none, .mov (.c (.g (.bool false)))⟩]) <|
    .ret)
   (.skip)) <|
 .reg [0, 5] [⟨(some 14), none, .mov (.t 5)⟩,
   ⟨(some 15), none, .bin .add (.t 14) (.c (.g (.int .i64 1)))⟩,
   ⟨(some 5), none, .mov (.t 15)⟩]
def F56 : IFunc := ⟨2, 34, [.tmp 4], false,
 .seq (.reg [0, 1] [⟨(some 4), none, .mov (.c (.g (.bool false)))⟩]) <|
 .seq (.seq (.reg [0, 9] [⟨(some 6), none, .mov (.t 0)⟩,
     ⟨(some 7), none, .len (.t 6)⟩,
     ⟨(some 8), none, .mov (.t 1)⟩,
     ⟨(some 9), none, .bin .gtr (.t 7) (.t 8)⟩]) <|
  .cond [0] (.t 9)
   (.seq (.reg [4] [⟨(some 4), none, .mov (.c (.g (.bool false)))⟩]) <|
    .ret)
   (.skip)) <|
 .seq (.seq (.reg [0, 5] [⟨(some 5), none, .mov (.c (.g (.int .i64 0)))⟩]) <|
  .block [] 0 <|
  .loop [0, 5] [] L56_0) <|
 .seq (.reg [4] [⟨(some 4), none, .mov (.c (.g (.bool true)))⟩]) <|
 .ret⟩
def h56 : List (List Nat) := [[0, 1], [0, 9], [0], [4], [0, 5], [], [0, 5], [0, 5, 13], [0, 5], [0, 5], [0, 5, 33], [0, 5], [4], [0, 5], [4]]
theorem c56 : cFunc Try.prog 56 false h56 = some F56 := by kernel_rfl

/-- baton/batonref04.May -/
def L57_0 : IC :=
 .seq (.seq (.reg [0, 3, 7] [⟨(some 4), none, .mov (.t 3)⟩,
     ⟨(some 5), none, .mov (.t 0)⟩,
     ⟨(some 6), none, .len (.t 5)⟩,
     ⟨(some 7), none, .bin .lss (.t 4) (.t 6)⟩]) <|
  .cond [0, 3] (.t 7)
   (.skip)
   (.exit 0)) <|
 .seq (.block [0, 3] 1 <|
  .seq (.drw [0, 3, 33] 0 <|
   .take ⟨(some 10), none, .mov (.t 0)⟩ <|
   .take ⟨(some 11), none, .mov (.t 3)⟩ <|
   .take ⟨(some 12), none, .iaddr 6 (.t 10) (.t 11)⟩ <|
   .take ⟨(some 13), none, .load true 6 (.t 12)⟩ <|
   .one ⟨(some 14), none, .call (.c (.g (.fn 80))) [(.t 13)]⟩ <|
   .take ⟨(some 15), none, .un .not (.t 14)⟩ <|
   .take ⟨(some 16), none, .mov (.t 15)⟩ <|
   .take ⟨(some 17), (some (16, false)), .mov (.t 3)⟩ <|
   .take ⟨(some 18), (some (16, false)), .bin .gtr (.t 17) (.c (.g (.int .i64 0)))⟩ <|
   .take ⟨(some 19), (some (16, false)), .mov (.t 18)⟩ <|
   .take ⟨(some 20), (some (19, true)), .mov (.t 0)⟩ <|
   .take ⟨(some 21), (some (19, true)), .mov (.t 3)⟩ <|
   .take ⟨(some 22), (some (19, true)), .bin .sub (.t 21) (.c (.g (.int .i64 1)))⟩ <|
   .take ⟨(some 23), (some (19, true)), .iaddr 6 (.t 20) (.t 22)⟩ <|
   .take ⟨(some 24), (some (19, true)), .faddr 0 (.t 23)⟩ <|
   .take ⟨(some 26), (some (19, true)), .mov (.t 0)⟩ <|
   .take ⟨(some 27), (some (19, true)), .mov (.t 3)⟩ <|
   .take ⟨(some 28), (some (19, true)), .iaddr 6 (.t 26) (.t 27)⟩ <|
   .take ⟨(some 29), (some (19, true)), .faddr 0 (.t 28)⟩ <|
   .alt ⟨(some 25), (some (19, true)), .load false 1 (.t 24)⟩
   (.one ⟨(some 30), (some (19, true)), .load false 1 (.t 29)⟩ <|
    .take ⟨(some 31), (some (19, true)), .bin .geq (.t 25) (.t 30)⟩ <|
    .take ⟨(some 32), (some (16, false)), .pick (.t 19) (.t 31) (.c (.g (.bool false)))⟩ <|
    .take ⟨(some 33), none, .pick (.t 16) (.c (.g (.bool true))) (.t 32)⟩ <|
    .leaf)
   (.one ⟨(some 30), (some (19, true)), .load false 1 (.t 29)⟩ <|
    .one ⟨(some 25), (some (19, true)), .load false 1 (.t 24)⟩ <|
    .take ⟨(some 31), (some (19, true)), .bin .geq (.t 25) (.t 30)⟩ <|
    .take ⟨(some 32), (some (16, false)), .pick (.t 19) (.t 31) (.c (.g (.bool false)))⟩ <|
    .take ⟨(some 33), none, .pick (.t 16) (.c (.g (.bool true))) (.t 32)⟩ <|
    .leaf)) <|
  .cond [0, 3] (.t 33)
   (.seq (.reg [2] [⟨(some 2), none, .mov (.c (.g (.bool false)))⟩]) <|
    .ret)
   (.skip)) <|
 .reg [0, 3] [⟨(some 8), none, .mov (.t 3)⟩,
   ⟨(some 9), none, .bin .add (.t 8) (.c (.g (.int .i64 1)))⟩,
   ⟨(some 3), none, .mov (.t 9)⟩]
def F57 : IFunc := ⟨1, 34, [.tmp 2], false,
 .seq (.reg [0] [⟨(some 2), none, .mov (.c (.g (.bool false)))⟩]) <|
 .seq (.seq (.reg [0, 3] [⟨(some 3), none, .mov (.c (.g (.int .i64 0)))⟩]) <|
  .block [] 0 <|
  .loop [0, 3] [] L57_0) <|
 .seq (.reg [2] [⟨(some 2), none, .mov (.c (.g (.bool true)))⟩]) <|
 .ret⟩
def h57 : List (List Nat) := [[0], [0, 3], [], [0, 3], [0, 3, 7], [0, 3], [0, 3], [0, 3, 33], [], [0, 3], [2], [0, 3], [2]]
theorem c57 : cFunc Try.prog 57 false h57 = some F57 := by kernel_rfl

/-- baton/batonref05.right -/
def F58 : IFunc := ⟨2, 65, [.tmp 4], false,
 .seq (.reg [0, 3] [⟨(some 3), none, .box (.t 1)⟩,
    ⟨(some 4), none, .mov (.c (.g (.bool false)))⟩]) <|
 .seq (.reg [3, 5, 6] [⟨(some 8), none, .mov (.t 0)⟩,
    ⟨(some 9), none, .faddr 2 (.t 3)⟩,
    ⟨(some 10), none, .faddr 0 (.t 9)⟩,
    ⟨(some 11), none, .load false 1 (.t 10)⟩,
    ⟨(some 12), none, .call (.c (.g (.fn 49))) [(.t 8), (.t 11)]⟩,
    ⟨(some 7), none, .mov (.t 12)⟩,
    ⟨(some 13), none, .ext 0 (.t 7)⟩,
    ⟨(some 14), none, .ext 1 (.t 7)⟩,
    ⟨(some 5), none, .alloc [.z (.str []), .z (.str []), .z (.int .i64 0), .z (.int .i64 0), .z (.int .i64 0), .z (.int .i64 0)]⟩,
    ⟨none, none, .store 6 (.t 5) (.t 13)⟩,
    ⟨(some 6), none, .mov (.t 14)⟩]) <|
 .seq (.seq (.reg [3, 5, 6, 16] [⟨(some 15), none, .faddr 1 (.t 3)⟩,
     ⟨(some 16), none, .load false 1 (.t 15)⟩]) <|
  .cond [3, 5, 6] (.t 16)
   (.seq (.reg [4] [⟨(some 17), none, .mov (.t 6)⟩,
       ⟨(some 18), none, .mov (.t 17)⟩,
       ⟨(some 19), (some (18, true)), .load true 6 (.t 5)⟩,
       ⟨(some 20), (some (18, true)), .faddr 2 (.t 3)⟩,
       ⟨(some 21), (some (18, true)), .load true 6 (.t 20)⟩,
       ⟨(some 22), (some (18, true)), .eqs false true [.s, .s, .i, .i, .i, .i] (.t 19) (.t 21)⟩,
       ⟨(some 23), none, .pick (.t 18) (.t 22) (.c (.g (.bool false)))⟩,
       ⟨(some 4), none, .mov (.t 23)⟩]) <|
    .ret)
   (.skip)) <|
 .seq (.seq (.reg [3, 5, 6, 35] [⟨(some 24), none, .faddr 2 (.t 3)⟩,
     ⟨(some 25), none, .load true 6 (.t 24)⟩,
     ⟨(some 26), none, .call (.c (.g (.fn 80))) [(.t 25)]⟩,
     ⟨(some 27), none, .un .not (.t 26)⟩,
     ⟨(some 28), none, .mov (.t 27)⟩,
     ⟨(some 29), (some (28, false)), .faddr 2 (.t 3)⟩,
     ⟨(some 30), (some (28, false)), .faddr 3 (.t 29)⟩,
     ⟨(some 31), (some (28, false)), .load false 1 (.t 30)⟩,
     ⟨(some 32), (some (28, false)), .faddr 0 (.t 3)⟩,
     ⟨(some 33), (some (28, false)), .load false 1 (.t 32)⟩,
     ⟨(some 34), (some (28, false)), .bin .neq (.t 31) (.t 33)⟩,
     ⟨(some 35), none, .pick (.t 28) (.c (.g (.bool true))) (.t 34)⟩]) <|
  .cond [3, 5, 6] (.t 35)
   (.seq (.reg [4] [⟨(some 4), none, .mov (.c (.g (.bool false)))⟩]) <|
    .ret)
   (.skip)) <|
 .seq (.seq (.reg [3, 5, 37] [⟨(some 36), none, .mov (.t 6)⟩,
     ⟨(some 37), none, .un .not (.t 36)⟩]) <|
  .cond [3, 5] (.t 37)
   (.seq (.reg [4] [⟨(some 38), none, .faddr 2 (.t 3)⟩,
       ⟨(some 39), none, .faddr 2 (.t 38)⟩,
       ⟨(some 40), none, .load false 1 (.t 39)⟩,
       ⟨(some 41), none, .faddr 0 (.t 3)⟩,
       ⟨(some 42), none, .load false 1 (.t 41)⟩,
       ⟨(some 43), none, .bin .eql (.t 40) (.t 42)⟩,
       ⟨(some 44), none, .mov (.t 43)⟩,
       ⟨(some 45), (some (44, true)), .faddr 2 (.t 3)⟩,
       ⟨(some 46), (some (44, true)), .faddr 4 (.t 45)⟩,
       ⟨(some 47), (some (44, true)), .load false 1 (.t 46)⟩,
       ⟨(some 48), (some (44, true)), .bin .eql (.t 47) (.c (.g (.int .i64 1)))⟩,
       ⟨(some 49), none, .pick (.t 44) (.t 48) (.c (.g (.bool false)))⟩,
       ⟨(some 4), none, .mov (.t 49)⟩]) <|
    .ret)
   (.skip)) <|
 .seq (.reg [4] [⟨(some 50), none, .faddr 2 (.t 3)⟩,
    ⟨(some 51), none, .faddr 2 (.t 50)⟩,
    ⟨(some 52), none, .load false 1 (.t 51)⟩,
    ⟨(some 53), none, .faddr 2 (.t 5)⟩,
    ⟨(some 54), none, .load false 1 (.t 53)⟩,
    ⟨(some 55), none, .bin .eql (.t 52) (.t 54)⟩,
    ⟨(some 56), none, .mov (.t 55)⟩,
    ⟨(some 57), (some (56, true)), .faddr 2 (.t 3)⟩,
    ⟨(some 58), (some (56, true)), .faddr 4 (.t 57)⟩,
    ⟨(some 59), (some (56, true)), .load false 1 (.t 58)⟩,
    ⟨(some 60), (some (56, true)), .bin .sub (.t 59) (.c (.g (.int .i64 1)))⟩,
    ⟨(some 61), (some (56, true)), .faddr 4 (.t 5)⟩,
    ⟨(some 62), (some (56, true)), .load false 1 (.t 61)⟩,
    ⟨(some 63), (some (56, true)), .bin .eql (.t 60) (.t 62)⟩,
    ⟨(some 64), none, .pick (.t 56) (.t 63) (.c (.g (.bool false)))⟩,
    ⟨(some 4), none, .mov (.t 64)⟩]) <|
 .ret⟩
def h58 : List (List Nat) := [[0, 3], [3, 5, 6], [3, 5, 6, 16], [3, 5, 6], [4], [3, 5, 6, 35], [3, 5, 6], [4], [3, 5, 37], [3, 5], [4], [4]]
theorem c58 : cFunc Try.prog 58 false h58 = some F58 := by kernel_rfl

/-- baton/batonref04.Fold -/
def L59_0 : IC :=
 .seq (.seq (.reg [0, 1, 2, 7, 11] [⟨(some 8), none, .mov (.t 7)⟩,
     ⟨(some 9), none, .mov (.t 1)⟩,
     ⟨(some 10), none, .len (.t 9)⟩,
     ⟨(some 11), none, .bin .lss (.t 8) (.t 10)⟩]) <|
  .cond [0, 1, 2, 7] (.t 11)
   (.skip)
   (.exit 0)) <|
 .seq (.block [0, 1, 2, 7] 1 <|
  .seq (.seq (.reg [0, 1, 2, 7, 20] [⟨(some 14), none, .mov (.t 1)⟩,
      ⟨(some 15), none, .mov (.t 7)⟩,
      ⟨(some 16), none, .iaddr 8 (.t 14) (.t 15)⟩,
      ⟨(some 17), none, .faddr 0 (.t 16)⟩,
      ⟨(some 18), none, .load false 1 (.t 17)⟩,
      ⟨(some 19), none, .mov (.t 2)⟩,
      ⟨(some 20), none, .bin .gtr (.t 18) (.t 19)⟩]) <|
   .cond [0, 1, 2, 7] (.t 20)
    (.exit 1)
    (.skip)) <|
  .seq (.reg [0, 1, 2, 7, 25] [⟨(some 21), none, .mov (.t 1)⟩,
     ⟨(some 22), none, .mov (.t 7)⟩,
     ⟨(some 23), none, .iaddr 8 (.t 21) (.t 22)⟩,
     ⟨(some 24), none, .faddr 1 (.t 23)⟩,
     ⟨(some 25), none, .load false 1 (.t 24)⟩]) <|
  .cond [0, 1, 2, 7] (.t 25)
   (.reg [0, 1, 2, 7] [⟨(some 26), none, .mov (.t 0)⟩,
      ⟨(some 27), none, .mov (.t 1)⟩,
      ⟨(some 28), none, .mov (.t 7)⟩,
      ⟨(some 29), none, .iaddr 8 (.t 27) (.t 28)⟩,
      ⟨(some 30), none, .faddr 2 (.t 29)⟩,
      ⟨(some 31), none, .faddr 0 (.t 30)⟩,
      ⟨(some 32), none, .load false 1 (.t 31)⟩,
      ⟨(some 33), none, .call (.c (.g (.fn 81))) [(.t 26), (.t 32)]⟩,
      ⟨(some 0), none, .mov (.t 33)⟩])
   (.reg [0, 1, 2, 7] [⟨(some 34), none, .mov (.t 0)⟩,
      ⟨(some 35), none, .mov (.t 1)⟩,
      ⟨(some 36), none, .mov (.t 7)⟩,
      ⟨(some 37), none, .iaddr 8 (.t 35) (.t 36)⟩,
      ⟨(some 38), none, .faddr 2 (.t 37)⟩,
      ⟨(some 39), none, .load true 6 (.t 38)⟩,
      ⟨(some 40), none, .call (.c (.g (.fn 82))) [(.t 34), (.t 39)]⟩,
      ⟨(some 0), none, .mov (.t 40)⟩])) <|
 .reg [0, 1, 2, 7] [⟨(some 12), none, .mov (.t 7)⟩,
   ⟨(some 13), none, .bin .add (.t 12) (.c (.g (.int .i64 1)))⟩,
   ⟨(some 7), none, .mov (.t 13)⟩]
def F59 : IFunc := ⟨3, 42, [.tmp 6], false,
 .seq (.reg [0, 1, 2] [⟨(some 6), none, .nres 6⟩]) <|
 .seq (.seq (.reg [0, 1, 2, 7] [⟨(some 7), none, .mov (.c (.g (.int .i64 0)))⟩]) <|
  .block [0] 0 <|
  .loop [0, 1, 2, 7] [] L59_0) <|
 .seq (.reg [6] [⟨(some 41), none, .mov (.t 0)⟩,
    ⟨(some 6), none, .mov (.t 41)⟩]) <|
 .ret⟩
def h59 : List (List Nat) := [[0, 1, 2], [0, 1, 2, 7], [0], [0, 1, 2, 7], [0, 1, 2, 7, 11], [0, 1, 2, 7], [0, 1, 2, 7], [0, 1, 2, 7, 20], [0, 1, 2, 7], [0, 1, 2, 7, 25], [0, 1, 2, 7], [0, 1, 2, 7], [0, 1, 2, 7], [0, 1, 2, 7], [6]]
theorem c59 : cFunc Try.prog 59 false h59 = some F59 := by kernel_rfl

/-- baton/batonref03.ShortMuts -/
def L60_0 : IC :=
 .seq (.seq (.reg [0, 3, 10] [⟨(some 7), none, .mov (.t 3)⟩,
     ⟨(some 8), none, .mov (.t 0)⟩,
     ⟨(some 9), none, .len (.t 8)⟩,
     ⟨(some 10), none, .bin .lss (.t 7) (.t 9)⟩]) <|
  .cond [0, 3] (.t 10)
   (.skip)
   (.exit 0)) <|
 .seq (.block [0, 3] 1 <|
  .seq (.reg [0, 3, 28] [⟨(some 13), none, .mov (.t 0)⟩,
     ⟨(some 14), none, .mov (.t 3)⟩,
     ⟨(some 15), none, .iaddr 4 (.t 13) (.t 14)⟩,
     ⟨(some 16), none, .faddr 1 (.t 15)⟩,
     ⟨(some 17), none, .load false 1 (.t 16)⟩,
     ⟨(some 18), none, .lenS (.t 17)⟩,
     ⟨(some 19), none, .bin .gtr (.t 18) (.c (.g (.int .i64 60)))⟩,
     ⟨(some 20), none, .mov (.t 19)⟩,
     ⟨(some 21), (some (20, false)), .mov (.t 0)⟩,
     ⟨(some 22), (some (20, false)), .mov (.t 3)⟩,
     ⟨(some 23), (some (20, false)), .iaddr 4 (.t 21) (.t 22)⟩,
     ⟨(some 24), (some (20, false)), .faddr 2 (.t 23)⟩,
     ⟨(some 25), (some (20, false)), .load false 1 (.t 24)⟩,
     ⟨(some 26), (some (20, false)), .lenS (.t 25)⟩,
     ⟨(some 27), (some (20, false)), .bin .gtr (.t 26) (.c (.g (.int .i64 60)))⟩,
     ⟨(some 28), none, .pick (.t 20) (.c (.g (.bool true))) (.t 27)⟩]) <|
  .cond [0, 3] (.t 28)
   (.seq (.reg [2] [⟨(some 2), none, .mov (.c (.g (.bool false)))⟩]) <|
    .ret)
   (.skip)) <|
 .reg [0, 3] [⟨(some 11), none, .mov (.t 3)⟩,
   ⟨(some 12), none, .bin .add (.t 11) (.c (.g (.int .i64 1)))⟩,
   ⟨(some 3), none, .mov (.t 12)⟩]
def F60 : IFunc := ⟨1, 29, [.tmp 2], false,
 .seq (.reg [0] [⟨(some 2), none, .mov (.c (.g (.bool false)))⟩]) <|
 .seq (.seq (.reg [0, 6] [⟨(some 4), none, .mov (.t 0)⟩,
     ⟨(some 5), none, .len (.t 4)⟩,
     ⟨(some 6), none, .bin .gtr (.t 5) (.c (.g (.int .i64 8)))⟩]) <|
  .cond [0] (.t 6)
   (.seq (.reg [2] [⟨(some 2), none, .mov (.c (.g (.bool false)))⟩]) <|
    .ret)
   (.skip)) <|
 .seq (.seq (.reg [0, 3] [⟨(some 3), none, .mov (.c (.g (.int .i64 0)))⟩]) <|
  .block [] 0 <|
  .loop [0, 3] [] L60_0) <|
 .seq (.reg [2] [⟨(some 2), none, .mov (.c (.g (.bool true)))⟩]) <|
 .ret⟩
def h60 : List (List Nat) := [[0], [0, 6], [0], [2], [0, 3], [], [0, 3], [0, 3, 10], [0, 3], [0, 3], [0, 3, 28], [0, 3], [2], [0, 3], [2]]
theorem c60 : cFunc Try.prog 60 false h60 = some F60 := by kernel_rfl

/-- baton/batonref03.Muts -/
def L61_0 : IC :=
 .seq (.seq (.reg [0, 1, 5, 14] [⟨(some 11), none, .mov (.t 5)⟩,
     ⟨(some 12), none, .mov (.t 0)⟩,
     ⟨(some 13), none, .len (.t 12)⟩,
     ⟨(some 14), none, .bin .lss (.t 11) (.t 13)⟩]) <|
  .cond [0, 1, 5] (.t 14)
   (.skip)
   (.exit 0)) <|
 .seq (.block [0, 1, 5] 1 <|
  .seq (.drw [0, 1, 5, 25] 0 <|
   .take ⟨(some 17), none, .mov (.t 0)⟩ <|
   .take ⟨(some 18), none, .mov (.t 5)⟩ <|
   .take ⟨(some 19), none, .iaddr 4 (.t 17) (.t 18)⟩ <|
   .take ⟨(some 20), none, .load true 4 (.t 19)⟩ <|
   .take ⟨(some 21), none, .mov (.t 1)⟩ <|
   .take ⟨(some 22), none, .mov (.t 5)⟩ <|
   .take ⟨(some 23), none, .iaddr 4 (.t 21) (.t 22)⟩ <|
   .take ⟨(some 24), none, .load true 4 (.t 23)⟩ <|
   .free <|
   .take ⟨(some 25), none, .eqs true true [.b, .s, .s, .i] (.t 20) (.t 24)⟩ <|
   .leaf) <|
  .cond [0, 1, 5] (.t 25)
   (.seq (.reg [4] [⟨(some 4), none, .mov (.c (.g (.bool false)))⟩]) <|
    .ret)
   (.skip)) <|
 .reg [0, 1, 5] [⟨(some 15), none, .mov (.t 5)⟩,
   ⟨(some 16), none, .bin .add (.t 15) (.c (.g (.int .i64 1)))⟩,
   ⟨(some 5), none, .mov (.t 16)⟩]
def F61 : IFunc := ⟨2, 26, [.tmp 4], false,
 .seq (.reg [0, 1] [⟨(some 4), none, .mov (.c (.g (.bool false)))⟩]) <|
 .seq (.seq (.reg [0, 1, 10] [⟨(some 6), none, .mov (.t 0)⟩,
     ⟨(some 7), none, .len (.t 6)⟩,
     ⟨(some 8), none, .mov (.t 1)⟩,
     ⟨(some 9), none, .len (.t 8)⟩,
     ⟨(some 10), none, .bin .neq (.t 7) (.t 9)⟩]) <|
  .cond [0, 1] (.t 10)
   (.seq (.reg [4] [⟨(some 4), none, .mov (.c (.g (.bool false)))⟩]) <|
    .ret)
   (.skip)) <|
 .seq (.seq (.reg [0, 1, 5] [⟨(some 5), none, .mov (.c (.g (.int .i64 0)))⟩]) <|
  .block [] 0 <|
  .loop [0, 1, 5] [] L61_0) <|
 .seq (.reg [4] [⟨(some 4), none, .mov (.c (.g (.bool true)))⟩]) <|
 .ret⟩
def h61 : List (List Nat) := [[0, 1], [0, 1, 10], [0, 1], [4], [0, 1, 5], [], [0, 1, 5], [0, 1, 5, 14], [0, 1, 5], [0, 1, 5], [0, 1, 5, 25], [], [0, 1, 5], [4], [0, 1, 5], [4]]
theorem c61 : cFunc Try.prog 61 false h61 = some F61 := by kernel_rfl

/-- baton/hist.Fold -/
def L62_0 : IC :=
 .seq (.reg [0, 2, 11, 12, 13, 14] [⟨(some 14), none, .bin .lss (.t 13) (.t 12)⟩]) <|
 .seq (.cond [0, 2, 11, 12, 13] (.t 14)
   (.skip)
   (.exit 0)) <|
 .seq (.block [0, 2, 11, 12, 13] 1 <|
  .seq (.reg [0, 2, 8, 11, 12, 13] [⟨(some 15), none, .iaddr 8 (.t 11) (.t 13)⟩,
     ⟨(some 16), none, .load true 8 (.t 15)⟩,
     ⟨(some 8), none, .alloc [.z (.int .i64 0), .z (.bool false), .z (.str []), .z (.str []), .z (.int .i64 0), .z (.int .i64 0), .z (.int .i64 0), .z (.int .i64 0)]⟩,
     ⟨none, none, .store 8 (.t 8) (.t 16)⟩]) <|
  .block [0, 2, 11, 12, 13] 2 <|
  .seq (.reg [0, 2, 8, 11, 12, 13, 21] [⟨(some 22), none, .faddr 0 (.t 8)⟩,
     ⟨(some 23), none, .load false 1 (.t 22)⟩,
     ⟨(some 24), none, .mov (.t 2)⟩,
     ⟨(some 25), none, .bin .gtr (.t 23) (.t 24)⟩,
     ⟨(some 21), none, .mov (.t 25)⟩]) <|
  .cond [0, 2, 11, 12, 13] (.t 21)
   (.skip)
   (.seq (.reg [0, 2, 8, 11, 12, 13, 26] [⟨(some 27), none, .faddr 1 (.t 8)⟩,
       ⟨(some 28), none, .load false 1 (.t 27)⟩,
       ⟨(some 26), none, .mov (.t 28)⟩]) <|
    .cond [0, 2, 11, 12, 13] (.t 26)
     (.reg [0, 2, 11, 12, 13] [⟨(some 29), none, .mov (.t 0)⟩,
        ⟨(some 30), none, .faddr 2 (.t 8)⟩,
        ⟨(some 31), none, .faddr 0 (.t 30)⟩,
        ⟨(some 32), none, .load false 1 (.t 31)⟩,
        ⟨(some 33), none, .call (.c (.g (.fn 84))) [(.t 29), (.t 32)]⟩,
        ⟨(some 0), none, .mov (.t 33)⟩])
     (.reg [0, 2, 11, 12, 13] [⟨(some 17), none, .mov (.t 0)⟩,
        ⟨(some 18), none, .faddr 2 (.t 8)⟩,
        ⟨(some 19), none, .load true 6 (.t 18)⟩,
        ⟨(some 20), none, .call (.c (.g (.fn 85))) [(.t 17), (.t 19)]⟩,
        ⟨(some 0), none, .mov (.t 20)⟩]))) <|
 .reg [0, 2, 11, 12, 13] [⟨(some 34), none, .bin .add (.t 13) (.c (.g (.int .i64 1)))⟩,
   ⟨(some 13), none, .mov (.t 34)⟩]
def F62 : IFunc := ⟨3, 36, [.tmp 6], false,
 .seq (.reg [0, 1, 2] [⟨(some 6), none, .nres 6⟩]) <|
 .seq (.reg [0, 1, 2] [⟨(some 9), none, .mov (.t 0)⟩,
    ⟨(some 10), none, .call (.c (.g (.fn 83))) [(.t 9)]⟩,
    ⟨(some 0), none, .mov (.t 10)⟩]) <|
 .seq (.seq (.reg [0, 2, 11, 12, 13] [⟨(some 11), none, .mov (.t 1)⟩,
     ⟨(some 12), none, .len (.t 11)⟩,
     ⟨(some 13), none, .mov (.c (.g (.int .i64 0)))⟩]) <|
  .block [0] 0 <|
  .loop [0, 2, 11, 12, 13] [] L62_0) <|
 .seq (.reg [6] [⟨(some 35), none, .mov (.t 0)⟩,
    ⟨(some 6), none, .mov (.t 35)⟩]) <|
 .ret⟩
def h62 : List (List Nat) := [[0, 1, 2], [0, 1, 2], [0, 2, 11, 12, 13], [0], [0, 2, 11, 12, 13], [0, 2, 11, 12, 13, 14], [0, 2, 11, 12, 13], [0, 2, 11, 12, 13], [0, 2, 8, 11, 12, 13], [0, 2, 11, 12, 13], [0, 2, 8, 11, 12, 13, 21], [0, 2, 11, 12, 13], [0, 2, 8, 11, 12, 13, 26], [0, 2, 11, 12, 13], [0, 2, 11, 12, 13], [0, 2, 11, 12, 13], [0, 2, 11, 12, 13], [6]]
theorem c62 : cFunc Try.prog 62 false h62 = some F62 := by kernel_rfl

/-- baton/hist.May -/
def L63_0 : IC :=
 .seq (.reg [3, 6, 7, 8, 9] [⟨(some 9), none, .bin .lss (.t 8) (.t 7)⟩]) <|
 .seq (.cond [3, 6, 7, 8] (.t 9)
   (.skip)
   (.exit 0)) <|
 .seq (.block [3, 6, 7, 8] 1 <|
  .seq (.reg [3, 5, 6, 7, 8] [⟨(some 10), none, .iaddr 6 (.t 6) (.t 8)⟩,
     ⟨(some 11), none, .load true 6 (.t 10)⟩,
     ⟨(some 5), none, .alloc [.z (.str []), .z (.str []), .z (.int .i64 0), .z (.int .i64 0), .z (.int .i64 0), .z (.int .i64 0)]⟩,
     ⟨none, none, .store 6 (.t 5) (.t 11)⟩]) <|
  .seq (.seq (.reg [5, 6, 7, 8, 20] [⟨(some 12), none, .load true 6 (.t 5)⟩,
      ⟨(some 13), none, .call (.c (.g (.fn 86))) [(.t 12)]⟩,
      ⟨(some 14), none, .un .not (.t 13)⟩,
      ⟨(some 15), none, .mov (.t 14)⟩,
      ⟨(some 16), (some (15, false)), .faddr 0 (.t 5)⟩,
      ⟨(some 17), (some (15, false)), .load false 1 (.t 16)⟩,
      ⟨(some 18), (some (15, false)), .mov (.t 3)⟩,
      ⟨(some 19), (some (15, false)), .bin .leq (.t 17) (.t 18)⟩,
      ⟨(some 20), none, .pick (.t 15) (.c (.g (.bool true))) (.t 19)⟩]) <|
   .cond [5, 6, 7, 8] (.t 20)
    (.seq (.reg [2] [⟨(some 2), none, .mov (.c (.g (.bool false)))⟩]) <|
     .ret)
    (.skip)) <|
  .reg [3, 6, 7, 8] [⟨(some 21), none, .faddr 0 (.t 5)⟩,
    ⟨(some 22), none, .load false 1 (.t 21)⟩,
    ⟨(some 3), none, .mov (.t 22)⟩]) <|
 .reg [3, 6, 7, 8] [⟨(some 23), none, .bin .add (.t 8) (.c (.g (.int .i64 1)))⟩,
   ⟨(some 8), none, .mov (.t 23)⟩]
def F63 : IFunc := ⟨1, 24, [.tmp 2], false,
 .seq (.reg [0] [⟨(some 2), none, .mov (.c (.g (.bool false)))⟩]) <|
 .seq (.reg [0, 3] [⟨(some 3), none, .mov (.c (.g (.str [])))⟩]) <|
 .seq (.seq (.reg [3, 6, 7, 8] [⟨(some 6), none, .mov (.t 0)⟩,
     ⟨(some 7), none, .len (.t 6)⟩,
     ⟨(some 8), none, .mov (.c (.g (.int .i64 0)))⟩]) <|
  .block [] 0 <|
  .loop [3, 6, 7, 8] [] L63_0) <|
 .seq (.reg [2] [⟨(some 2), none, .mov (.c (.g (.bool true)))⟩]) <|
 .ret⟩
def h63 : List (List Nat) := [[0], [0, 3], [3, 6, 7, 8], [], [3, 6, 7, 8], [3, 6, 7, 8, 9], [3, 6, 7, 8], [3, 6, 7, 8], [3, 5, 6, 7, 8], [5, 6, 7, 8, 20], [5, 6, 7, 8], [2], [3, 6, 7, 8], [3, 6, 7, 8], [2]]
theorem c63 : cFunc Try.prog 63 false h63 = some F63 := by kernel_rfl

/-- slices.ContainsFunc[[]baton/api.KV,baton/api.KV] -/
def F64 : IFunc := ⟨2, 9, [.tmp 4], false,
 .seq (.reg [0, 1] [⟨(some 4), none, .mov (.c (.g (.bool false)))⟩]) <|
 .seq (.reg [4] [⟨(some 5), none, .mov (.t 0)⟩,
    ⟨(some 6), none, .mov (.t 1)⟩,
    ⟨(some 7), none, .call (.c (.g (.fn 74))) [(.t 5), (.t 6)]⟩,
    ⟨(some 8), none, .bin .geq (.t 7) (.c (.g (.int .i64 0)))⟩,
    ⟨(some 4), none, .mov (.t 8)⟩]) <|
 .ret⟩
def h64 : List (List Nat) := [[0, 1], [4]]
theorem c64 : cFunc Try.prog 64 false h64 = some F64 := by kernel_rfl

/-- baton/mvcc.May$1 -/
def F65 : IFunc := ⟨2, 9, [.tmp 3], false,
 .seq (.reg [1, 2] [⟨(some 2), none, .box (.t 0)⟩,
    ⟨(some 3), none, .mov (.c (.g (.bool false)))⟩]) <|
 .seq (.reg [3] [⟨(some 4), none, .faddr 3 (.t 2)⟩,
    ⟨(some 5), none, .load false 1 (.t 4)⟩,
    ⟨(some 6), none, .faddr 1 (.t 1)⟩,
    ⟨(some 7), none, .load false 1 (.t 6)⟩,
    ⟨(some 8), none, .bin .gtr (.t 5) (.t 7)⟩,
    ⟨(some 3), none, .mov (.t 8)⟩]) <|
 .ret⟩
def h65 : List (List Nat) := [[1, 2], [3]]
theorem c65 : cFunc Try.prog 65 false h65 = some F65 := by kernel_rfl

/-- baton/mvcc.right -/
def F66 : IFunc := ⟨2, 49, [.tmp 4], false,
 .seq (.reg [0, 3] [⟨(some 3), none, .box (.t 1)⟩,
    ⟨(some 4), none, .mov (.c (.g (.bool false)))⟩]) <|
 .seq (.seq (.reg [0, 3, 9] [⟨(some 8), none, .faddr 1 (.t 3)⟩,
     ⟨(some 9), none, .load false 1 (.t 8)⟩]) <|
  .cond [0, 3] (.t 9)
   (.seq (.reg [3, 5, 6] [⟨(some 11), none, .mov (.t 0)⟩,
       ⟨(some 12), none, .faddr 2 (.t 3)⟩,
       ⟨(some 13), none, .faddr 0 (.t 12)⟩,
       ⟨(some 14), none, .load false 1 (.t 13)⟩,
       ⟨(some 15), none, .call (.c (.g (.fn 53))) [(.t 11), (.t 14)]⟩,
       ⟨(some 10), none, .mov (.t 15)⟩,
       ⟨(some 16), none, .ext 0 (.t 10)⟩,
       ⟨(some 17), none, .ext 1 (.t 10)⟩,
       ⟨(some 5), none, .alloc [.z (.str []), .z (.str []), .z (.int .i64 0), .z (.int .i64 0), .z (.int .i64 0), .z (.int .i64 0)]⟩,
       ⟨none, none, .store 6 (.t 5) (.t 16)⟩,
       ⟨(some 6), none, .mov (.t 17)⟩]) <|
    .seq (.reg [4] [⟨(some 18), none, .mov (.t 6)⟩,
       ⟨(some 19), none, .mov (.t 18)⟩,
       ⟨(some 20), (some (19, true)), .load true 6 (.t 5)⟩,
       ⟨(some 21), (some (19, true)), .faddr 2 (.t 3)⟩,
       ⟨(some 22), (some (19, true)), .load true 6 (.t 21)⟩,
       ⟨(some 23), (some (19, true)), .eqs false true [.s, .s, .i, .i, .i, .i] (.t 20) (.t 22)⟩,
       ⟨(some 24), none, .pick (.t 19) (.t 23) (.c (.g (.bool false)))⟩,
       ⟨(some 4), none, .mov (.t 24)⟩]) <|
    .ret)
   (.skip)) <|
 .seq (.reg [3, 7] [⟨(some 25), none, .mov (.t 0)⟩,
    ⟨(some 26), none, .faddr 2 (.t 3)⟩,
    ⟨(some 27), none, .faddr 0 (.t 26)⟩,
    ⟨(some 28), none, .load false 1 (.t 27)⟩,
    ⟨(some 29), none, .faddr 2 (.t 3)⟩,
    ⟨(some 30), none, .faddr 1 (.t 29)⟩,
    ⟨(some 31), none, .load false 1 (.t 30)⟩,
    ⟨(some 32), none, .faddr 2 (.t 3)⟩,
    ⟨(some 33), none, .faddr 5 (.t 32)⟩,
    ⟨(some 34), none, .load false 1 (.t 33)⟩,
    ⟨(some 35), none, .build [.g (.bool false), .g (.str []), .g (.str []), .g (.int .i64 0)] [(1, 1, (.t 28)), (2, 1, (.t 31)), (3, 1, (.t 34))]⟩,
    ⟨(some 36), none, .faddr 0 (.t 3)⟩,
    ⟨(some 37), none, .load false 1 (.t 36)⟩,
    ⟨(some 38), none, .call (.c (.g (.fn 87))) [(.t 25), (.t 35), (.t 37)]⟩,
    ⟨(some 7), none, .alloc [.z (.str []), .z (.str []), .z (.int .i64 0), .z (.int .i64 0), .z (.int .i64 0), .z (.int .i64 0)]⟩,
    ⟨none, none, .store 6 (.t 7) (.t 38)⟩]) <|
 .seq (.reg [4] [⟨(some 39), none, .faddr 2 (.t 3)⟩,
    ⟨(some 40), none, .load true 6 (.t 39)⟩,
    ⟨(some 41), none, .load true 6 (.t 7)⟩,
    ⟨(some 42), none, .eqs false true [.s, .s, .i, .i, .i, .i] (.t 40) (.t 41)⟩,
    ⟨(some 43), none, .mov (.t 42)⟩,
    ⟨(some 44), (some (43, true)), .faddr 2 (.t 3)⟩,
    ⟨(some 45), (some (43, true)), .load true 6 (.t 44)⟩,
    ⟨(some 46), (some (43, true)), .bslice 6 1 [.str [], .str [], .int .i64 0, .int .i64 0, .int .i64 0, .int .i64 0] [(0, 6, (.t 45))]⟩,
    ⟨(some 47), (some (43, true)), .call (.c (.g (.fn 63))) [(.t 46)]⟩,
    ⟨(some 48), none, .pick (.t 43) (.t 47) (.c (.g (.bool false)))⟩,
    ⟨(some 4), none, .mov (.t 48)⟩]) <|
 .ret⟩
def h66 : List (List Nat) := [[0, 3], [0, 3, 9], [0, 3], [3, 5, 6], [4], [3, 7], [4]]
theorem c66 : cFunc Try.prog 66 false h66 = some F66 := by kernel_rfl

/-- baton/mvcc.may -/
def L67_0 : IC :=
 .seq (.reg [0, 3, 9, 10, 11, 12] [⟨(some 12), none, .bin .lss (.t 11) (.t 10)⟩]) <|
 .seq (.cond [0, 3, 9, 10, 11] (.t 12)
   (.skip)
   (.exit 0)) <|
 .seq (.block [0, 3, 9, 10, 11] 1 <|
  .seq (.reg [0, 3, 5, 9, 10, 11] [⟨(some 13), none, .iaddr 4 (.t 9) (.t 11)⟩,
     ⟨(some 14), none, .load true 4 (.t 13)⟩,
     ⟨(some 5), none, .alloc [.z (.bool false), .z (.str []), .z (.str []), .z (.int .i64 0)]⟩,
     ⟨none, none, .store 4 (.t 5) (.t 14)⟩]) <|
  .seq (.seq (.reg [0, 3, 5, 7, 9, 10, 11] [⟨(some 16), none, .mov (.t 3)⟩,
      ⟨(some 17), none, .faddr 1 (.t 5)⟩,
      ⟨(some 18), none, .load false 1 (.t 17)⟩,
      ⟨(some 19), none, .mget true .s none (.t 16) (.t 18)⟩,
      ⟨(some 15), none, .mov (.t 19)⟩,
      ⟨(some 20), none, .ext 0 (.t 15)⟩,
      ⟨(some 21), none, .ext 1 (.t 15)⟩,
      ⟨(some 6), none, .alloc []⟩,
      ⟨none, none, .store 0 (.t 6) (.t 20)⟩,
      ⟨(some 7), none, .mov (.t 21)⟩]) <|
   .seq (.reg [0, 3, 5, 9, 10, 11, 44] [⟨(some 22), none, .mov (.t 7)⟩,
      ⟨(some 23), none, .mov (.t 22)⟩,
      ⟨(some 24), (some (23, false)), .faddr 1 (.t 5)⟩,
      ⟨(some 25), (some (23, false)), .load false 1 (.t 24)⟩,
      ⟨(some 26), (some (23, false)), .call (.c (.g (.fn 88))) [(.t 25)]⟩,
      ⟨(some 27), (some (23, false)), .un .not (.t 26)⟩,
      ⟨(some 28), none, .pick (.t 23) (.c (.g (.bool true))) (.t 27)⟩,
      ⟨(some 29), none, .mov (.t 28)⟩,
      ⟨(some 30), (some (29, false)), .faddr 2 (.t 5)⟩,
      ⟨(some 31), (some (29, false)), .load false 1 (.t 30)⟩,
      ⟨(some 32), (some (29, false)), .lenS (.t 31)⟩,
      ⟨(some 33), (some (29, false)), .bin .gtr (.t 32) (.c (.g (.int .i64 20)))⟩,
      ⟨(some 34), none, .pick (.t 29) (.c (.g (.bool true))) (.t 33)⟩,
      ⟨(some 35), none, .mov (.t 34)⟩,
      ⟨(some 36), (some (35, false)), .faddr 3 (.t 5)⟩,
      ⟨(some 37), (some (35, false)), .load false 1 (.t 36)⟩,
      ⟨(some 38), (some (35, false)), .bin .lss (.t 37) (.c (.g (.int .i64 0)))⟩,
      ⟨(some 39), none, .pick (.t 35) (.c (.g (.bool true))) (.t 38)⟩,
      ⟨(some 40), none, .mov (.t 39)⟩,
      ⟨(some 41), (some (40, false)), .faddr 3 (.t 5)⟩,
      ⟨(some 42), (some (40, false)), .load false 1 (.t 41)⟩,
      ⟨(some 43), (some (40, false)), .bin .gtr (.t 42) (.c (.g (.int .i64 1099511627775)))⟩,
      ⟨(some 44), none, .pick (.t 40) (.c (.g (.bool true))) (.t 43)⟩]) <|
   .cond [0, 3, 5, 9, 10, 11] (.t 44)
    (.seq (.reg [2] [⟨(some 2), none, .mov (.c (.g (.bool false)))⟩]) <|
     .ret)
    (.skip)) <|
  .reg [0, 3, 9, 10, 11] [⟨(some 45), none, .mov (.t 3)⟩,
    ⟨(some 46), none, .faddr 1 (.t 5)⟩,
    ⟨(some 47), none, .load false 1 (.t 46)⟩,
    ⟨(some 48), none, .build [] []⟩,
    ⟨none, none, .mset .s (.t 45) (.t 47) (.t 48)⟩]) <|
 .reg [0, 3, 9, 10, 11] [⟨(some 49), none, .bin .add (.t 11) (.c (.g (.int .i64 1)))⟩,
   ⟨(some 11), none, .mov (.t 49)⟩]
def F67 : IFunc := ⟨1, 53, [.tmp 2], false,
 .seq (.reg [0] [⟨(some 2), none, .mov (.c (.g (.bool false)))⟩]) <|
 .seq (.reg [0, 3] [⟨(some 8), none, .mkmap⟩,
    ⟨(some 3), none, .mov (.t 8)⟩]) <|
 .seq (.seq (.reg [0, 3, 9, 10, 11] [⟨(some 9), none, .mov (.t 0)⟩,
     ⟨(some 10), none, .len (.t 9)⟩,
     ⟨(some 11), none, .mov (.c (.g (.int .i64 0)))⟩]) <|
  .block [0] 0 <|
  .loop [0, 3, 9, 10, 11] [] L67_0) <|
 .seq (.reg [2] [⟨(some 50), none, .mov (.t 0)⟩,
    ⟨(some 51), none, .len (.t 50)⟩,
    ⟨(some 52), none, .bin .leq (.t 51) (.c (.g (.int .i64 30)))⟩,
    ⟨(some 2), none, .mov (.t 52)⟩]) <|
 .ret⟩
def h67 : List (List Nat) := [[0], [0, 3], [0, 3, 9, 10, 11], [0], [0, 3, 9, 10, 11], [0, 3, 9, 10, 11, 12], [0, 3, 9, 10, 11], [0, 3, 9, 10, 11], [0, 3, 5, 9, 10, 11], [0, 3, 5, 7, 9, 10, 11], [0, 3, 5, 9, 10, 11, 44], [0, 3, 5, 9, 10, 11], [2], [0, 3, 9, 10, 11], [0, 3, 9, 10, 11], [2]]
theorem c67 : cFunc Try.prog 67 false h67 = some F67 := by kernel_rfl

/-- baton/mvcc.events -/
def L68_0 : IC :=
 .seq (.reg [0, 2, 8, 9, 15, 16, 17, 18] [⟨(some 18), none, .bin .lss (.t 17) (.t 16)⟩]) <|
 .seq (.cond [0, 2, 8, 9, 15, 16, 17] (.t 18)
   (.skip)
   (.exit 0)) <|
 .seq (.block [0, 2, 8, 9, 15, 16, 17] 1 <|
  .seq (.reg [0, 2, 8, 9, 11, 15, 16, 17] [⟨(some 19), none, .iaddr 4 (.t 15) (.t 17)⟩,
     ⟨(some 20), none, .load true 4 (.t 19)⟩,
     ⟨(some 11), none, .alloc [.z (.bool false), .z (.str []), .z (.str []), .z (.int .i64 0)]⟩,
     ⟨none, none, .store 4 (.t 11) (.t 20)⟩]) <|
  .seq (.reg [0, 2, 8, 9, 11, 12, 15, 16, 17] [⟨(some 21), none, .mov (.t 2)⟩,
     ⟨(some 22), none, .faddr 0 (.t 11)⟩,
     ⟨(some 23), none, .load false 1 (.t 22)⟩,
     ⟨(some 24), none, .build [.g (.int .i64 0), .g (.bool false), .g (.str []), .g (.str []), .g (.int .i64 0), .g (.int .i64 0), .g (.int .i64 0), .g (.int .i64 0)] [(0, 1, (.t 21)), (1, 1, (.t 23))]⟩,
     ⟨(some 12), none, .alloc [.z (.int .i64 0), .z (.bool false), .z (.str []), .z (.str []), .z (.int .i64 0), .z (.int .i64 0), .z (.int .i64 0), .z (.int .i64 0)]⟩,
     ⟨none, none, .store 8 (.t 12) (.t 24)⟩]) <|
  .seq (.seq (.reg [0, 2, 8, 9, 11, 12, 15, 16, 17, 26] [⟨(some 25), none, .faddr 0 (.t 11)⟩,
      ⟨(some 26), none, .load false 1 (.t 25)⟩]) <|
   .cond [0, 2, 8, 9, 12, 15, 16, 17] (.t 26)
    (.seq (.reg [0, 2, 8, 9, 12, 13, 14, 15, 16, 17] [⟨(some 28), none, .mov (.t 0)⟩,
        ⟨(some 29), none, .faddr 1 (.t 11)⟩,
        ⟨(some 30), none, .load false 1 (.t 29)⟩,
        ⟨(some 31), none, .call (.c (.g (.fn 53))) [(.t 28), (.t 30)]⟩,
        ⟨(some 27), none, .mov (.t 31)⟩,
        ⟨(some 32), none, .ext 0 (.t 27)⟩,
        ⟨(some 33), none, .ext 1 (.t 27)⟩,
        ⟨(some 13), none, .alloc [.z (.str []), .z (.str []), .z (.int .i64 0), .z (.int .i64 0), .z (.int .i64 0), .z (.int .i64 0)]⟩,
        ⟨none, none, .store 6 (.t 13) (.t 32)⟩,
        ⟨(some 14), none, .mov (.t 33)⟩]) <|
     .seq (.seq (.reg [0, 2, 8, 9, 12, 13, 15, 16, 17, 35] [⟨(some 34), none, .mov (.t 14)⟩,
         ⟨(some 35), none, .un .not (.t 34)⟩]) <|
      .cond [0, 2, 8, 9, 12, 13, 15, 16, 17] (.t 35)
       (.exit 1)
       (.skip)) <|
     .reg [0, 2, 8, 9, 12, 15, 16, 17] [⟨(some 36), none, .load true 6 (.t 13)⟩,
       ⟨(some 37), none, .faddr 2 (.t 12)⟩,
       ⟨none, none, .store 6 (.t 37) (.t 36)⟩])
    (.reg [0, 2, 8, 9, 12, 15, 16, 17] [⟨(some 38), none, .mov (.t 0)⟩,
       ⟨(some 39), none, .load true 4 (.t 11)⟩,
       ⟨(some 40), none, .mov (.t 2)⟩,
       ⟨(some 41), none, .call (.c (.g (.fn 87))) [(.t 38), (.t 39), (.t 40)]⟩,
       ⟨(some 42), none, .faddr 2 (.t 12)⟩,
       ⟨none, none, .store 6 (.t 42) (.t 41)⟩])) <|
  .seq (.reg [0, 2, 8, 9, 12, 15, 16, 17] [⟨(some 43), none, .mov (.t 0)⟩,
     ⟨(some 44), none, .load true 8 (.t 12)⟩,
     ⟨(some 45), none, .bslice 8 1 [.int .i64 0, .bool false, .str [], .str [], .int .i64 0, .int .i64 0, .int .i64 0, .int .i64 0] [(0, 8, (.t 44))]⟩,
     ⟨(some 46), none, .mov (.t 2)⟩,
     ⟨(some 47), none, .call (.c (.g (.fn 62))) [(.t 43), (.t 45), (.t 46)]⟩,
     ⟨(some 0), none, .mov (.t 47)⟩]) <|
  .seq (.reg [0, 2, 8, 9, 12, 15, 16, 17] [⟨(some 48), none, .mov (.t 9)⟩,
     ⟨(some 49), none, .mov (.t 48)⟩,
     ⟨(some 50), (some (49, false)), .mov (.t 0)⟩,
     ⟨(some 51), (some (49, false)), .len (.t 50)⟩,
     ⟨(some 52), (some (49, false)), .bin .gtr (.t 51) (.c (.g (.int .i64 30)))⟩,
     ⟨(some 53), none, .pick (.t 49) (.c (.g (.bool true))) (.t 52)⟩,
     ⟨(some 9), none, .mov (.t 53)⟩]) <|
  .reg [0, 2, 8, 9, 15, 16, 17] [⟨(some 54), none, .mov (.t 8)⟩,
    ⟨(some 55), none, .load true 8 (.t 12)⟩,
    ⟨(some 56), none, .bslice 8 1 [.int .i64 0, .bool false, .str [], .str [], .int .i64 0, .int .i64 0, .int .i64 0, .int .i64 0] [(0, 8, (.t 55))]⟩,
    ⟨(some 57), none, .app 8 80 (.t 54) (.t 56)⟩,
    ⟨(some 8), none, .mov (.t 57)⟩]) <|
 .reg [0, 2, 8, 9, 15, 16, 17] [⟨(some 58), none, .bin .add (.t 17) (.c (.g (.int .i64 1)))⟩,
   ⟨(some 17), none, .mov (.t 58)⟩]
def F68 : IFunc := ⟨3, 61, [.tmp 6, .tmp 7], false,
 .seq (.reg [0, 1, 2] [⟨(some 6), none, .nres 8⟩,
    ⟨(some 7), none, .mov (.c (.g (.bool false)))⟩]) <|
 .seq (.reg [0, 1, 2, 8] [⟨(some 8), none, .nres 8⟩]) <|
 .seq (.reg [0, 1, 2, 8, 9] [⟨(some 9), none, .mov (.c (.g (.bool false)))⟩]) <|
 .seq (.seq (.reg [0, 2, 8, 9, 15, 16, 17] [⟨(some 15), none, .mov (.t 1)⟩,
     ⟨(some 16), none, .len (.t 15)⟩,
     ⟨(some 17), none, .mov (.c (.g (.int .i64 0)))⟩]) <|
  .block [8, 9] 0 <|
  .loop [0, 2, 8, 9, 15, 16, 17] [] L68_0) <|
 .seq (.reg [6, 7] [⟨(some 59), none, .mov (.t 8)⟩,
    ⟨(some 60), none, .mov (.t 9)⟩,
    ⟨(some 6), none, .mov (.t 59)⟩,
    ⟨(some 7), none, .mov (.t 60)⟩]) <|
 .ret⟩
def h68 : List (List Nat) := [[0, 1, 2], [0, 1, 2, 8], [0, 1, 2, 8, 9], [0, 2, 8, 9, 15, 16, 17], [8, 9], [0, 2, 8, 9, 15, 16, 17], [0, 2, 8, 9, 15, 16, 17, 18], [0, 2, 8, 9, 15, 16, 17], [0, 2, 8, 9, 15, 16, 17], [0, 2, 8, 9, 11, 15, 16, 17], [0, 2, 8, 9, 11, 12, 15, 16, 17], [0, 2, 8, 9, 11, 12, 15, 16, 17, 26], [0, 2, 8, 9, 12, 15, 16, 17], [0, 2, 8, 9, 12, 13, 14, 15, 16, 17], [0, 2, 8, 9, 12, 13, 15, 16, 17, 35], [0, 2, 8, 9, 12, 13, 15, 16, 17], [0, 2, 8, 9, 12, 15, 16, 17], [0, 2, 8, 9, 12, 15, 16, 17], [0, 2, 8, 9, 12, 15, 16, 17], [0, 2, 8, 9, 12, 15, 16, 17], [0, 2, 8, 9, 15, 16, 17], [0, 2, 8, 9, 15, 16, 17], [6, 7]]
theorem c68 : cFunc Try.prog 68 false h68 = some F68 := by kernel_rfl

/-- slices.Concat[[]baton/api.Event,baton/api.Event] -/
def L69_0 : IC :=
 .seq (.reg [0, 3, 9, 10, 11, 12] [⟨(some 12), none, .bin .lss (.t 11) (.t 10)⟩]) <|
 .seq (.cond [0, 3, 9, 10, 11] (.t 12)
   (.skip)
   (.exit 0)) <|
 .seq (.block [0, 3, 9, 10, 11] 1 <|
  .seq (.reg [0, 3, 5, 9, 10, 11] [⟨(some 13), none, .iaddr 1 (.t 9) (.t 11)⟩,
     ⟨(some 14), none, .load false 1 (.t 13)⟩,
     ⟨(some 5), none, .mov (.t 14)⟩]) <|
  .seq (.reg [0, 3, 9, 10, 11] [⟨(some 15), none, .mov (.t 3)⟩,
     ⟨(some 16), none, .mov (.t 5)⟩,
     ⟨(some 17), none, .len (.t 16)⟩,
     ⟨(some 18), none, .bin .add (.t 15) (.t 17)⟩,
     ⟨(some 3), none, .mov (.t 18)⟩]) <|
  .seq (.reg [0, 3, 9, 10, 11, 20] [⟨(some 19), none, .mov (.t 3)⟩,
     ⟨(some 20), none, .bin .lss (.t 19) (.c (.g (.int .i64 0)))⟩]) <|
  .cond [0, 3, 9, 10, 11] (.t 20)
   (.reg [0, 3, 9, 10, 11] [⟨(some 21), none, .mkif 9 (.c (.g (.str [108, 101, 110, 32, 111, 117, 116, 32, 111, 102, 32, 114, 97, 110, 103, 101])))⟩,
      ⟨none, none, .row 0 []⟩])
   (.skip)) <|
 .reg [0, 3, 9, 10, 11] [⟨(some 22), none, .bin .add (.t 11) (.c (.g (.int .i64 1)))⟩,
   ⟨(some 11), none, .mov (.t 22)⟩]
def L69_1 : IC :=
 .seq (.reg [6, 25, 26, 27, 28] [⟨(some 28), none, .bin .lss (.t 27) (.t 26)⟩]) <|
 .seq (.cond [6, 25, 26, 27] (.t 28)
   (.skip)
   (.exit 2)) <|
 .seq (.block [6, 25, 26, 27] 3 <|
  .seq (.reg [6, 8, 25, 26, 27] [⟨(some 29), none, .iaddr 1 (.t 25) (.t 27)⟩,
     ⟨(some 30), none, .load false 1 (.t 29)⟩,
     ⟨(some 8), none, .mov (.t 30)⟩]) <|
  .reg [6, 25, 26, 27] [⟨(some 31), none, .mov (.t 6)⟩,
    ⟨(some 32), none, .mov (.t 8)⟩,
    ⟨(some 33), none, .app 8 80 (.t 31) (.t 32)⟩,
    ⟨(some 6), none, .mov (.t 33)⟩]) <|
 .reg [6, 25, 26, 27] [⟨(some 34), none, .bin .add (.t 27) (.c (.g (.int .i64 1)))⟩,
   ⟨(some 27), none, .mov (.t 34)⟩]
def F69 : IFunc := ⟨1, 36, [.tmp 2], false,
 .seq (.reg [0] [⟨(some 2), none, .nres 8⟩]) <|
 .seq (.reg [0, 3] [⟨(some 3), none, .mov (.c (.g (.int .i64 0)))⟩]) <|
 .seq (.seq (.reg [0, 3, 9, 10, 11] [⟨(some 9), none, .mov (.t 0)⟩,
     ⟨(some 10), none, .len (.t 9)⟩,
     ⟨(some 11), none, .mov (.c (.g (.int .i64 0)))⟩]) <|
  .block [0, 3] 0 <|
  .loop [0, 3, 9, 10, 11] [] L69_0) <|
 .seq (.reg [0, 6] [⟨(some 23), none, .mov (.t 3)⟩,
    ⟨(some 24), none, .call (.c (.g (.fn 89))) [(.c (.g (.nsl))), (.t 23)]⟩,
    ⟨(some 6), none, .mov (.t 24)⟩]) <|
 .seq (.seq (.reg [6, 25, 26, 27] [⟨(some 25), none, .mov (.t 0)⟩,
     ⟨(some 26), none, .len (.t 25)⟩,
     ⟨(some 27), none, .mov (.c (.g (.int .i64 0)))⟩]) <|
  .block [6] 2 <|
  .loop [6, 25, 26, 27] [] L69_1) <|
 .seq (.reg [2] [⟨(some 35), none, .mov (.t 6)⟩,
    ⟨(some 2), none, .mov (.t 35)⟩]) <|
 .ret⟩
def h69 : List (List Nat) := [[0], [0, 3], [0, 3, 9, 10, 11], [0, 3], [0, 3, 9, 10, 11], [0, 3, 9, 10, 11, 12], [0, 3, 9, 10, 11], [0, 3, 9, 10, 11], [0, 3, 5, 9, 10, 11], [0, 3, 9, 10, 11], [0, 3, 9, 10, 11, 20], [0, 3, 9, 10, 11], [0, 3, 9, 10, 11], [0, 3, 9, 10, 11], [0, 6], [6, 25, 26, 27], [6], [6, 25, 26, 27], [6, 25, 26, 27, 28], [6, 25, 26, 27], [6, 25, 26, 27], [6, 8, 25, 26, 27], [6, 25, 26, 27], [6, 25, 26, 27], [2]]
theorem c69 : cFunc Try.prog 69 false h69 = some F69 := by kernel_rfl

/-- baton/batonref05.muts -/
def L70_0 : IC :=
 .seq (.seq (.reg [0, 3, 4, 48] [⟨(some 46), none, .mov (.t 4)⟩,
     ⟨(some 47), none, .mov (.t 3)⟩,
     ⟨(some 48), none, .bin .lss (.t 46) (.t 47)⟩]) <|
  .cond [0, 3, 4] (.t 48)
   (.skip)
   (.exit 2)) <|
 .seq (.block [0, 3, 4] 3 <|
  .seq (.drw [0, 3, 4, 61] 0 <|
   .take ⟨(some 51), none, .mov (.t 0)⟩ <|
   .take ⟨(some 52), none, .mov (.t 4)⟩ <|
   .take ⟨(some 53), none, .iaddr 4 (.t 51) (.t 52)⟩ <|
   .take ⟨(some 54), none, .faddr 1 (.t 53)⟩ <|
   .take ⟨(some 55), none, .load false 1 (.t 54)⟩ <|
   .take ⟨(some 56), none, .mov (.t 0)⟩ <|
   .take ⟨(some 57), none, .mov (.t 3)⟩ <|
   .take ⟨(some 58), none, .iaddr 4 (.t 56) (.t 57)⟩ <|
   .take ⟨(some 59), none, .faddr 1 (.t 58)⟩ <|
   .take ⟨(some 60), none, .load false 1 (.t 59)⟩ <|
   .free <|
   .take ⟨(some 61), none, .bin .eql (.t 55) (.t 60)⟩ <|
   .leaf) <|
  .cond [0, 3, 4] (.t 61)
   (.seq (.reg [2] [⟨(some 2), none, .mov (.c (.g (.bool false)))⟩]) <|
    .ret)
   (.skip)) <|
 .reg [0, 3, 4] [⟨(some 49), none, .mov (.t 4)⟩,
   ⟨(some 50), none, .bin .add (.t 49) (.c (.g (.int .i64 1)))⟩,
   ⟨(some 4), none, .mov (.t 50)⟩]
def L70_1 : IC :=
 .seq (.seq (.reg [0, 3, 11] [⟨(some 8), none, .mov (.t 3)⟩,
     ⟨(some 9), none, .mov (.t 0)⟩,
     ⟨(some 10), none, .len (.t 9)⟩,
     ⟨(some 11), none, .bin .lss (.t 8) (.t 10)⟩]) <|
  .cond [0, 3] (.t 11)
   (.skip)
   (.exit 0)) <|
 .seq (.block [0, 3] 1 <|
  .seq (.seq (.reg [0, 3, 45] [⟨(some 14), none, .mov (.t 0)⟩,
      ⟨(some 15), none, .mov (.t 3)⟩,
      ⟨(some 16), none, .iaddr 4 (.t 14) (.t 15)⟩,
      ⟨(some 17), none, .faddr 1 (.t 16)⟩,
      ⟨(some 18), none, .load false 1 (.t 17)⟩,
      ⟨(some 19), none, .call (.c (.g (.fn 90))) [(.t 18)]⟩,
      ⟨(some 20), none, .un .not (.t 19)⟩,
      ⟨(some 21), none, .mov (.t 20)⟩,
      ⟨(some 22), (some (21, false)), .mov (.t 0)⟩,
      ⟨(some 23), (some (21, false)), .mov (.t 3)⟩,
      ⟨(some 24), (some (21, false)), .iaddr 4 (.t 22) (.t 23)⟩,
      ⟨(some 25), (some (21, false)), .faddr 2 (.t 24)⟩,
      ⟨(some 26), (some (21, false)), .load false 1 (.t 25)⟩,
      ⟨(some 27), (some (21, false)), .lenS (.t 26)⟩,
      ⟨(some 28), (some (21, false)), .bin .gtr (.t 27) (.c (.g (.int .i64 20)))⟩,
      ⟨(some 29), none, .pick (.t 21) (.c (.g (.bool true))) (.t 28)⟩,
      ⟨(some 30), none, .mov (.t 29)⟩,
      ⟨(some 31), (some (30, false)), .mov (.t 0)⟩,
      ⟨(some 32), (some (30, false)), .mov (.t 3)⟩,
      ⟨(some 33), (some (30, false)), .iaddr 4 (.t 31) (.t 32)⟩,
      ⟨(some 34), (some (30, false)), .faddr 3 (.t 33)⟩,
      ⟨(some 35), (some (30, false)), .load false 1 (.t 34)⟩,
      ⟨(some 36), (some (30, false)), .bin .lss (.t 35) (.c (.g (.int .i64 0)))⟩,
      ⟨(some 37), none, .pick (.t 30) (.c (.g (.bool true))) (.t 36)⟩,
      ⟨(some 38), none, .mov (.t 37)⟩,
      ⟨(some 39), (some (38, false)), .mov (.t 0)⟩,
      ⟨(some 40), (some (38, false)), .mov (.t 3)⟩,
      ⟨(some 41), (some (38, false)), .iaddr 4 (.t 39) (.t 40)⟩,
      ⟨(some 42), (some (38, false)), .faddr 3 (.t 41)⟩,
      ⟨(some 43), (some (38, false)), .load false 1 (.t 42)⟩,
      ⟨(some 44), (some (38, false)), .bin .gtr (.t 43) (.c (.g (.int .i64 1099511627775)))⟩,
      ⟨(some 45), none, .pick (.t 38) (.c (.g (.bool true))) (.t 44)⟩]) <|
   .cond [0, 3] (.t 45)
    (.seq (.reg [2] [⟨(some 2), none, .mov (.c (.g (.bool false)))⟩]) <|
     .ret)
    (.skip)) <|
  .seq (.reg [0, 3, 4] [⟨(some 4), none, .mov (.c (.g (.int .i64 0)))⟩]) <|
  .block [0, 3] 2 <|
  .loop [0, 3, 4] [] L70_0) <|
 .reg [0, 3] [⟨(some 12), none, .mov (.t 3)⟩,
   ⟨(some 13), none, .bin .add (.t 12) (.c (.g (.int .i64 1)))⟩,
   ⟨(some 3), none, .mov (.t 13)⟩]
def F70 : IFunc := ⟨1, 62, [.tmp 2], false,
 .seq (.reg [0] [⟨(some 2), none, .mov (.c (.g (.bool false)))⟩]) <|
 .seq (.seq (.reg [0, 7] [⟨(some 5), none, .mov (.t 0)⟩,
     ⟨(some 6), none, .len (.t 5)⟩,
     ⟨(some 7), none, .bin .gtr (.t 6) (.c (.g (.int .i64 30)))⟩]) <|
  .cond [0] (.t 7)
   (.seq (.reg [2] [⟨(some 2), none, .mov (.c (.g (.bool false)))⟩]) <|
    .ret)
   (.skip)) <|
 .seq (.seq (.reg [0, 3] [⟨(some 3), none, .mov (.c (.g (.int .i64 0)))⟩]) <|
  .block [] 0 <|
  .loop [0, 3] [] L70_1) <|
 .seq (.reg [2] [⟨(some 2), none, .mov (.c (.g (.bool true)))⟩]) <|
 .ret⟩
def h70 : List (List Nat) := [[0], [0, 7], [0], [2], [0, 3], [], [0, 3], [0, 3, 11], [0, 3], [0, 3], [0, 3, 45], [0, 3], [2], [0, 3, 4], [0, 3], [0, 3, 4], [0, 3, 4, 48], [0, 3, 4], [0, 3, 4], [0, 3, 4, 61], [], [0, 3, 4], [2], [0, 3, 4], [0, 3], [2]]
theorem c70 : cFunc Try.prog 70 false h70 = some F70 := by kernel_rfl

/-- slices.DeleteFunc[[]baton/api.Event,baton/api.Event] -/
def L71_0 : IC :=
 .seq (.seq (.reg [0, 1, 5, 6, 19] [⟨(some 16), none, .mov (.t 6)⟩,
     ⟨(some 17), none, .mov (.t 0)⟩,
     ⟨(some 18), none, .len (.t 17)⟩,
     ⟨(some 19), none, .bin .lss (.t 16) (.t 18)⟩]) <|
  .cond [0, 1, 5, 6] (.t 19)
   (.skip)
   (.exit 0)) <|
 .seq (.block [0, 1, 5, 6] 1 <|
  .seq (.reg [0, 1, 5, 6, 7] [⟨(some 22), none, .mov (.t 0)⟩,
     ⟨(some 23), none, .mov (.t 6)⟩,
     ⟨(some 24), none, .iaddr 8 (.t 22) (.t 23)⟩,
     ⟨(some 25), none, .load true 8 (.t 24)⟩,
     ⟨(some 7), none, .alloc [.z (.int .i64 0), .z (.bool false), .z (.str []), .z (.str []), .z (.int .i64 0), .z (.int .i64 0), .z (.int .i64 0), .z (.int .i64 0)]⟩,
     ⟨none, none, .store 8 (.t 7) (.t 25)⟩]) <|
  .seq (.reg [0, 1, 5, 6, 7, 29] [⟨(some 26), none, .mov (.t 1)⟩,
     ⟨(some 27), none, .load true 8 (.t 7)⟩,
     ⟨(some 28), none, .call (.t 26) [(.t 27)]⟩,
     ⟨(some 29), none, .un .not (.t 28)⟩]) <|
  .cond [0, 1, 5, 6] (.t 29)
   (.seq (.reg [0, 1, 5, 6] [⟨(some 30), none, .mov (.t 0)⟩,
       ⟨(some 31), none, .mov (.t 5)⟩,
       ⟨(some 32), none, .load true 8 (.t 7)⟩,
       ⟨(some 33), none, .iaddr 8 (.t 30) (.t 31)⟩,
       ⟨none, none, .store 8 (.t 33) (.t 32)⟩]) <|
    .reg [0, 1, 5, 6] [⟨(some 34), none, .mov (.t 5)⟩,
      ⟨(some 35), none, .bin .add (.t 34) (.c (.g (.int .i64 1)))⟩,
      ⟨(some 5), none, .mov (.t 35)⟩])
   (.skip)) <|
 .reg [0, 1, 5, 6] [⟨(some 20), none, .mov (.t 6)⟩,
   ⟨(some 21), none, .bin .add (.t 20) (.c (.g (.int .i64 1)))⟩,
   ⟨(some 6), none, .mov (.t 21)⟩]
def F71 : IFunc := ⟨2, 42, [.tmp 4], false,
 .seq (.reg [0, 1] [⟨(some 4), none, .nres 8⟩]) <|
 .seq (.reg [0, 1, 5] [⟨(some 8), none, .mov (.t 0)⟩,
    ⟨(some 9), none, .mov (.t 1)⟩,
    ⟨(some 10), none, .call (.c (.g (.fn 91))) [(.t 8), (.t 9)]⟩,
    ⟨(some 5), none, .mov (.t 10)⟩]) <|
 .seq (.seq (.reg [0, 1, 5, 12] [⟨(some 11), none, .mov (.t 5)⟩,
     ⟨(some 12), none, .bin .eql (.t 11) (.c (.g (.int .i64 (-1))))⟩]) <|
  .cond [0, 1, 5] (.t 12)
   (.seq (.reg [4] [⟨(some 13), none, .mov (.t 0)⟩,
       ⟨(some 4), none, .mov (.t 13)⟩]) <|
    .ret)
   (.skip)) <|
 .seq (.seq (.reg [0, 1, 5, 6] [⟨(some 14), none, .mov (.t 5)⟩,
     ⟨(some 15), none, .bin .add (.t 14) (.c (.g (.int .i64 1)))⟩,
     ⟨(some 6), none, .mov (.t 15)⟩]) <|
  .block [0, 5] 0 <|
  .loop [0, 1, 5, 6] [] L71_0) <|
 .seq (.reg [0, 5] [⟨(some 36), none, .mov (.t 0)⟩,
    ⟨(some 37), none, .mov (.t 5)⟩,
    ⟨(some 38), none, .slc 8 (.t 36) (some (.t 37)) none⟩,
    ⟨none, none, .clear [.int .i64 0, .bool false, .str [], .str [], .int .i64 0, .int .i64 0, .int .i64 0, .int .i64 0] (.t 38)⟩]) <|
 .seq (.reg [4] [⟨(some 39), none, .mov (.t 0)⟩,
    ⟨(some 40), none, .mov (.t 5)⟩,
    ⟨(some 41), none, .slc 8 (.t 39) none (some (.t 40))⟩,
    ⟨(some 4), none, .mov (.t 41)⟩]) <|
 .ret⟩
def h71 : List (List Nat) := [[0, 1], [0, 1, 5], [0, 1, 5, 12], [0, 1, 5], [4], [0, 1, 5, 6], [0, 5], [0, 1, 5, 6], [0, 1, 5, 6, 19], [0, 1, 5, 6], [0, 1, 5, 6], [0, 1, 5, 6, 7], [0, 1, 5, 6, 7, 29], [0, 1, 5, 6], [0, 1, 5, 6], [0, 1, 5, 6], [0, 1, 5, 6], [0, 5], [4]]
theorem c71 : cFunc Try.prog 71 false h71 = some F71 := by kernel_rfl

/-- slices.Clone[[]baton/api.Event,baton/api.Event] -/
def F72 : IFunc := ⟨1, 8, [.tmp 2], true,
 .seq (.reg [0] [⟨(some 2), none, .nres 8⟩]) <|
 .seq (.seq (.reg [0, 4] [⟨(some 3), none, .mov (.t 0)⟩,
     ⟨(some 4), none, .isnilS false (.t 3)⟩]) <|
  .cond [0] (.t 4)
   (.seq (.reg [2] [⟨(some 2), none, .nres 8⟩]) <|
    .ret)
   (.skip)) <|
 .seq (.reg [2] [⟨(some 5), none, .mk0 8⟩,
    ⟨(some 6), none, .mov (.t 0)⟩,
    ⟨(some 7), none, .app 8 80 (.t 5) (.t 6)⟩,
    ⟨(some 2), none, .mov (.t 7)⟩]) <|
 .ret⟩
def h72 : List (List Nat) := [[0], [0, 4], [0], [2], [2]]
theorem c72 : cFunc Try.prog 72 true h72 = some F72 := by kernel_rfl

/-- baton/mvcc.Shrink$1 -/
def F73 : IFunc := ⟨2, 8, [.tmp 3], false,
 .seq (.reg [1, 2] [⟨(some 2), none, .box (.t 0)⟩,
    ⟨(some 3), none, .mov (.c (.g (.bool false)))⟩]) <|
 .seq (.reg [3] [⟨(some 4), none, .faddr 0 (.t 2)⟩,
    ⟨(some 5), none, .load false 1 (.t 4)⟩,
    ⟨(some 6), none, .load false 1 (.t 1)⟩,
    ⟨(some 7), none, .bin .leq (.t 5) (.t 6)⟩,
    ⟨(some 3), none, .mov (.t 7)⟩]) <|
 .ret⟩
def h73 : List (List Nat) := [[1, 2], [3]]
theorem c73 : cFunc Try.prog 73 false h73 = some F73 := by kernel_rfl

/-- slices.IndexFunc[[]baton/api.KV,baton/api.KV] -/
def L74_0 : IC :=
 .seq (.reg [0, 1, 7, 8, 9] [⟨(some 9), none, .bin .lss (.t 8) (.t 7)⟩]) <|
 .seq (.cond [0, 1, 7, 8] (.t 9)
   (.skip)
   (.exit 0)) <|
 .seq (.block [0, 1, 7, 8] 1 <|
  .seq (.reg [0, 1, 5, 7, 8] [⟨(some 10), none, .mov (.t 8)⟩,
     ⟨(some 5), none, .mov (.t 10)⟩]) <|
  .seq (.reg [0, 1, 5, 7, 8, 16] [⟨(some 11), none, .mov (.t 1)⟩,
     ⟨(some 12), none, .mov (.t 0)⟩,
     ⟨(some 13), none, .mov (.t 5)⟩,
     ⟨(some 14), none, .iaddr 6 (.t 12) (.t 13)⟩,
     ⟨(some 15), none, .load true 6 (.t 14)⟩,
     ⟨(some 16), none, .call (.t 11) [(.t 15)]⟩]) <|
  .cond [0, 1, 7, 8] (.t 16)
   (.seq (.reg [4] [⟨(some 17), none, .mov (.t 5)⟩,
       ⟨(some 4), none, .mov (.t 17)⟩]) <|
    .ret)
   (.skip)) <|
 .reg [0, 1, 7, 8] [⟨(some 18), none, .bin .add (.t 8) (.c (.g (.int .i64 1)))⟩,
   ⟨(some 8), none, .mov (.t 18)⟩]
def F74 : IFunc := ⟨2, 19, [.tmp 4], false,
 .seq (.reg [0, 1] [⟨(some 4), none, .mov (.c (.g (.int .i64 0)))⟩]) <|
 .seq (.seq (.reg [0, 1, 7, 8] [⟨(some 6), none, .mov (.t 0)⟩,
     ⟨(some 7), none, .len (.t 6)⟩,
     ⟨(some 8), none, .mov (.c (.g (.int .i64 0)))⟩]) <|
  .block [] 0 <|
  .loop [0, 1, 7, 8] [] L74_0) <|
 .seq (.reg [4] [⟨(some 4), none, .mov (.c (.g (.int .i64 (-1))))⟩]) <|
 .ret⟩
def h74 : List (List Nat) := [[0, 1], [0, 1, 7, 8], [], [0, 1, 7, 8], [0, 1, 7, 8, 9], [0, 1, 7, 8], [0, 1, 7, 8], [0, 1, 5, 7, 8], [0, 1, 5, 7, 8, 16], [0, 1, 7, 8], [4], [0, 1, 7, 8], [4]]
theorem c74 : cFunc Try.prog 74 false h74 = some F74 := by kernel_rfl

/-- baton/hist.is -/
def F75 : IFunc := ⟨1, 4, [.tmp 2], true,
 .seq (.reg [1] [⟨(some 1), none, .box (.t 0)⟩,
    ⟨(some 2), none, .mov (.c (.g (.nfn)))⟩]) <|
 .seq (.reg [2] [⟨(some 3), none, .mkfn 92 [(.t 1)]⟩,
    ⟨(some 2), none, .mov (.t 3)⟩]) <|
 .ret⟩
def h75 : List (List Nat) := [[1], [2]]
theorem c75 : cFunc Try.prog 75 true h75 = some F75 := by kernel_rfl

/-- (baton/txn.question).create -/
def F76 : IFunc := ⟨1, 10, [.tmp 2], false,
 .seq (.reg [1] [⟨(some 1), none, .box (.t 0)⟩,
    ⟨(some 2), none, .mov (.c (.g (.int .i64 0)))⟩]) <|
 .seq (.reg [2] [⟨(some 3), none, .faddr 5 (.t 1)⟩,
    ⟨(some 4), none, .faddr 2 (.t 3)⟩,
    ⟨(some 5), none, .load false 1 (.t 4)⟩,
    ⟨(some 6), none, .faddr 0 (.t 1)⟩,
    ⟨(some 7), none, .faddr 3 (.t 6)⟩,
    ⟨(some 8), none, .load false 1 (.t 7)⟩,
    ⟨(some 9), none, .call (.c (.g (.fn 93))) [(.t 5), (.t 8)]⟩,
    ⟨(some 2), none, .mov (.t 9)⟩]) <|
 .ret⟩
def h76 : List (List Nat) := [[1], [2]]
theorem c76 : cFunc Try.prog 76 false h76 = some F76 := by kernel_rfl

/-- (baton/txn.question).mod -/
def F77 : IFunc := ⟨1, 10, [.tmp 2], false,
 .seq (.reg [1] [⟨(some 1), none, .box (.t 0)⟩,
    ⟨(some 2), none, .mov (.c (.g (.int .i64 0)))⟩]) <|
 .seq (.reg [2] [⟨(some 3), none, .faddr 5 (.t 1)⟩,
    ⟨(some 4), none, .faddr 3 (.t 3)⟩,
    ⟨(some 5), none, .load false 1 (.t 4)⟩,
    ⟨(some 6), none, .faddr 0 (.t 1)⟩,
    ⟨(some 7), none, .faddr 3 (.t 6)⟩,
    ⟨(some 8), none, .load false 1 (.t 7)⟩,
    ⟨(some 9), none, .call (.c (.g (.fn 93))) [(.t 5), (.t 8)]⟩,
    ⟨(some 2), none, .mov (.t 9)⟩]) <|
 .ret⟩
def h77 : List (List Nat) := [[1], [2]]
theorem c77 : cFunc Try.prog 77 false h77 = some F77 := by kernel_rfl

/-- (baton/txn.question).version -/
def F78 : IFunc := ⟨1, 10, [.tmp 2], false,
 .seq (.reg [1] [⟨(some 1), none, .box (.t 0)⟩,
    ⟨(some 2), none, .mov (.c (.g (.int .i64 0)))⟩]) <|
 .seq (.reg [2] [⟨(some 3), none, .faddr 5 (.t 1)⟩,
    ⟨(some 4), none, .faddr 4 (.t 3)⟩,
    ⟨(some 5), none, .load false 1 (.t 4)⟩,
    ⟨(some 6), none, .faddr 0 (.t 1)⟩,
    ⟨(some 7), none, .faddr 3 (.t 6)⟩,
    ⟨(some 8), none, .load false 1 (.t 7)⟩,
    ⟨(some 9), none, .call (.c (.g (.fn 93))) [(.t 5), (.t 8)]⟩,
    ⟨(some 2), none, .mov (.t 9)⟩]) <|
 .ret⟩
def h78 : List (List Nat) := [[1], [2]]
theorem c78 : cFunc Try.prog 78 false h78 = some F78 := by kernel_rfl

/-- (baton/txn.question).value -/
def F79 : IFunc := ⟨1, 10, [.tmp 2], false,
 .seq (.reg [1] [⟨(some 1), none, .box (.t 0)⟩,
    ⟨(some 2), none, .mov (.c (.g (.int .i64 0)))⟩]) <|
 .seq (.reg [2] [⟨(some 3), none, .faddr 5 (.t 1)⟩,
    ⟨(some 4), none, .faddr 1 (.t 3)⟩,
    ⟨(some 5), none, .load false 1 (.t 4)⟩,
    ⟨(some 6), none, .faddr 0 (.t 1)⟩,
    ⟨(some 7), none, .faddr 4 (.t 6)⟩,
    ⟨(some 8), none, .load false 1 (.t 7)⟩,
    ⟨(some 9), none, .call (.c (.g (.fn 94))) [(.t 5), (.t 8)]⟩,
    ⟨(some 2), none, .mov (.t 9)⟩]) <|
 .ret⟩
def h79 : List (List Nat) := [[1], [2]]
theorem c79 : cFunc Try.prog 79 false h79 = some F79 := by kernel_rfl

/-- baton/batonref04.One -/
def F80 : IFunc := ⟨1, 59, [.tmp 2], false,
 .seq (.reg [1] [⟨(some 1), none, .box (.t 0)⟩,
    ⟨(some 2), none, .mov (.c (.g (.bool false)))⟩]) <|
 .seq (.seq (.reg [1, 22] [⟨(some 3), none, .faddr 0 (.t 1)⟩,
     ⟨(some 4), none, .load false 1 (.t 3)⟩,
     ⟨(some 5), none, .call (.c (.g (.fn 90))) [(.t 4)]⟩,
     ⟨(some 6), none, .un .not (.t 5)⟩,
     ⟨(some 7), none, .mov (.t 6)⟩,
     ⟨(some 8), (some (7, false)), .faddr 1 (.t 1)⟩,
     ⟨(some 9), (some (7, false)), .load false 1 (.t 8)⟩,
     ⟨(some 10), (some (7, false)), .lenS (.t 9)⟩,
     ⟨(some 11), (some (7, false)), .bin .gtr (.t 10) (.c (.g (.int .i64 20)))⟩,
     ⟨(some 12), none, .pick (.t 7) (.c (.g (.bool true))) (.t 11)⟩,
     ⟨(some 13), none, .mov (.t 12)⟩,
     ⟨(some 14), (some (13, false)), .faddr 2 (.t 1)⟩,
     ⟨(some 15), (some (13, false)), .load false 1 (.t 14)⟩,
     ⟨(some 16), (some (13, false)), .bin .lss (.t 15) (.c (.g (.int .i64 1)))⟩,
     ⟨(some 17), none, .pick (.t 13) (.c (.g (.bool true))) (.t 16)⟩,
     ⟨(some 18), none, .mov (.t 17)⟩,
     ⟨(some 19), (some (18, false)), .faddr 2 (.t 1)⟩,
     ⟨(some 20), (some (18, false)), .load false 1 (.t 19)⟩,
     ⟨(some 21), (some (18, false)), .bin .gtr (.t 20) (.c (.g (.int .i64 1099511627775)))⟩,
     ⟨(some 22), none, .pick (.t 18) (.c (.g (.bool true))) (.t 21)⟩]) <|
  .cond [1] (.t 22)
   (.seq (.reg [2] [⟨(some 2), none, .mov (.c (.g (.bool false)))⟩]) <|
    .ret)
   (.skip)) <|
 .seq (.reg [2] [⟨(some 23), none, .faddr 3 (.t 1)⟩,
    ⟨(some 24), none, .load false 1 (.t 23)⟩,
    ⟨(some 25), none, .faddr 2 (.t 1)⟩,
    ⟨(some 26), none, .load false 1 (.t 25)⟩,
    ⟨(some 27), none, .bin .geq (.t 24) (.t 26)⟩,
    ⟨(some 28), none, .mov (.t 27)⟩,
    ⟨(some 29), (some (28, true)), .faddr 3 (.t 1)⟩,
    ⟨(some 30), (some (28, true)), .load false 1 (.t 29)⟩,
    ⟨(some 31), (some (28, true)), .bin .leq (.t 30) (.c (.g (.int .i64 1099511627775)))⟩,
    ⟨(some 32), none, .pick (.t 28) (.t 31) (.c (.g (.bool false)))⟩,
    ⟨(some 33), none, .mov (.t 32)⟩,
    ⟨(some 34), (some (33, true)), .faddr 4 (.t 1)⟩,
    ⟨(some 35), (some (33, true)), .load false 1 (.t 34)⟩,
    ⟨(some 36), (some (33, true)), .bin .geq (.t 35) (.c (.g (.int .i64 1)))⟩,
    ⟨(some 37), none, .pick (.t 33) (.t 36) (.c (.g (.bool false)))⟩,
    ⟨(some 38), none, .mov (.t 37)⟩,
    ⟨(some 39), (some (38, true)), .faddr 4 (.t 1)⟩,
    ⟨(some 40), (some (38, true)), .load false 1 (.t 39)⟩,
    ⟨(some 41), (some (38, true)), .faddr 3 (.t 1)⟩,
    ⟨(some 42), (some (38, true)), .load false 1 (.t 41)⟩,
    ⟨(some 43), (some (38, true)), .faddr 2 (.t 1)⟩,
    ⟨(some 44), (some (38, true)), .load false 1 (.t 43)⟩,
    ⟨(some 45), (some (38, true)), .bin .sub (.t 42) (.t 44)⟩,
    ⟨(some 46), (some (38, true)), .bin .add (.t 45) (.c (.g (.int .i64 1)))⟩,
    ⟨(some 47), (some (38, true)), .bin .leq (.t 40) (.t 46)⟩,
    ⟨(some 48), none, .pick (.t 38) (.t 47) (.c (.g (.bool false)))⟩,
    ⟨(some 49), none, .mov (.t 48)⟩,
    ⟨(some 50), (some (49, true)), .faddr 5 (.t 1)⟩,
    ⟨(some 51), (some (49, true)), .load false 1 (.t 50)⟩,
    ⟨(some 52), (some (49, true)), .bin .geq (.t 51) (.c (.g (.int .i64 0)))⟩,
    ⟨(some 53), none, .pick (.t 49) (.t 52) (.c (.g (.bool false)))⟩,
    ⟨(some 54), none, .mov (.t 53)⟩,
    ⟨(some 55), (some (54, true)), .faddr 5 (.t 1)⟩,
    ⟨(some 56), (some (54, true)), .load false 1 (.t 55)⟩,
    ⟨(some 57), (some (54, true)), .bin .leq (.t 56) (.c (.g (.int .i64 1099511627775)))⟩,
    ⟨(some 58), none, .pick (.t 54) (.t 57) (.c (.g (.bool false)))⟩,
    ⟨(some 2), none, .mov (.t 58)⟩]) <|
 .ret⟩
def h80 : List (List Nat) := [[1], [1, 22], [1], [2], [2]]
theorem c80 : cFunc Try.prog 80 false h80 = some F80 := by kernel_rfl

/-- baton/batonref04.Take -/
def L81_0 : IC :=
 .seq (.seq (.reg [0, 1, 5, 6, 7, 12] [⟨(some 9), none, .mov (.t 7)⟩,
     ⟨(some 10), none, .mov (.t 0)⟩,
     ⟨(some 11), none, .len (.t 10)⟩,
     ⟨(some 12), none, .bin .lss (.t 9) (.t 11)⟩]) <|
  .cond [0, 1, 5, 6, 7] (.t 12)
   (.skip)
   (.exit 0)) <|
 .seq (.block [0, 1, 5, 6, 7] 1 <|
  .seq (.seq (.reg [0, 1, 5, 6, 7, 25] [⟨(some 15), none, .mov (.t 6)⟩,
      ⟨(some 16), none, .un .not (.t 15)⟩,
      ⟨(some 17), none, .mov (.t 16)⟩,
      ⟨(some 18), (some (17, true)), .mov (.t 0)⟩,
      ⟨(some 19), (some (17, true)), .mov (.t 7)⟩,
      ⟨(some 20), (some (17, true)), .iaddr 6 (.t 18) (.t 19)⟩,
      ⟨(some 21), (some (17, true)), .faddr 0 (.t 20)⟩,
      ⟨(some 22), (some (17, true)), .load false 1 (.t 21)⟩,
      ⟨(some 23), (some (17, true)), .mov (.t 1)⟩,
      ⟨(some 24), (some (17, true)), .bin .eql (.t 22) (.t 23)⟩,
      ⟨(some 25), none, .pick (.t 17) (.t 24) (.c (.g (.bool false)))⟩]) <|
   .cond [0, 1, 5, 6, 7] (.t 25)
    (.seq (.reg [0, 1, 5, 6, 7] [⟨(some 6), none, .mov (.c (.g (.bool true)))⟩]) <|
     .exit 1)
    (.skip)) <|
  .reg [0, 1, 5, 6, 7] [⟨(some 26), none, .mov (.t 5)⟩,
    ⟨(some 27), none, .mov (.t 0)⟩,
    ⟨(some 28), none, .mov (.t 7)⟩,
    ⟨(some 29), none, .iaddr 6 (.t 27) (.t 28)⟩,
    ⟨(some 30), none, .load true 6 (.t 29)⟩,
    ⟨(some 31), none, .bslice 6 1 [.str [], .str [], .int .i64 0, .int .i64 0, .int .i64 0, .int .i64 0] [(0, 6, (.t 30))]⟩,
    ⟨(some 32), none, .app 6 64 (.t 26) (.t 31)⟩,
    ⟨(some 5), none, .mov (.t 32)⟩]) <|
 .reg [0, 1, 5, 6, 7] [⟨(some 13), none, .mov (.t 7)⟩,
   ⟨(some 14), none, .bin .add (.t 13) (.c (.g (.int .i64 1)))⟩,
   ⟨(some 7), none, .mov (.t 14)⟩]
def F81 : IFunc := ⟨2, 34, [.tmp 4], false,
 .seq (.reg [0, 1] [⟨(some 4), none, .nres 6⟩]) <|
 .seq (.reg [0, 1, 5] [⟨(some 8), none, .mk0 6⟩,
    ⟨(some 5), none, .mov (.t 8)⟩]) <|
 .seq (.reg [0, 1, 5, 6] [⟨(some 6), none, .mov (.c (.g (.bool false)))⟩]) <|
 .seq (.seq (.reg [0, 1, 5, 6, 7] [⟨(some 7), none, .mov (.c (.g (.int .i64 0)))⟩]) <|
  .block [5] 0 <|
  .loop [0, 1, 5, 6, 7] [] L81_0) <|
 .seq (.reg [4] [⟨(some 33), none, .mov (.t 5)⟩,
    ⟨(some 4), none, .mov (.t 33)⟩]) <|
 .ret⟩
def h81 : List (List Nat) := [[0, 1], [0, 1, 5], [0, 1, 5, 6], [0, 1, 5, 6, 7], [5], [0, 1, 5, 6, 7], [0, 1, 5, 6, 7, 12], [0, 1, 5, 6, 7], [0, 1, 5, 6, 7], [0, 1, 5, 6, 7, 25], [0, 1, 5, 6, 7], [0, 1, 5, 6, 7], [0, 1, 5, 6, 7], [0, 1, 5, 6, 7], [4]]
theorem c81 : cFunc Try.prog 81 false h81 = some F81 := by kernel_rfl

/-- baton/batonref04.Lay -/
def L82_0 : IC :=
 .seq (.seq (.drw [0, 3, 5, 20] 0 <|
   .take ⟨(some 7), none, .mov (.t 5)⟩ <|
   .take ⟨(some 8), none, .mov (.t 0)⟩ <|
   .take ⟨(some 9), none, .len (.t 8)⟩ <|
   .take ⟨(some 10), none, .bin .lss (.t 7) (.t 9)⟩ <|
   .take ⟨(some 11), none, .mov (.t 10)⟩ <|
   .take ⟨(some 12), (some (11, true)), .mov (.t 0)⟩ <|
   .take ⟨(some 13), (some (11, true)), .mov (.t 5)⟩ <|
   .take ⟨(some 14), (some (11, true)), .iaddr 6 (.t 12) (.t 13)⟩ <|
   .take ⟨(some 15), (some (11, true)), .faddr 0 (.t 14)⟩ <|
   .take ⟨(some 16), (some (11, true)), .load false 1 (.t 15)⟩ <|
   .take ⟨(some 17), (some (11, true)), .faddr 0 (.t 3)⟩ <|
   .take ⟨(some 18), (some (11, true)), .load false 1 (.t 17)⟩ <|
   .take ⟨(some 19), (some (11, true)), .bin .lss (.t 16) (.t 18)⟩ <|
   .take ⟨(some 20), none, .pick (.t 11) (.t 19) (.c (.g (.bool false)))⟩ <|
   .leaf) <|
  .cond [0, 3, 5] (.t 20)
   (.skip)
   (.exit 0)) <|
 .block [0, 3, 5] 1 <|
 .reg [0, 3, 5] [⟨(some 21), none, .mov (.t 5)⟩,
   ⟨(some 22), none, .bin .add (.t 21) (.c (.g (.int .i64 1)))⟩,
   ⟨(some 5), none, .mov (.t 22)⟩]
def F82 : IFunc := ⟨2, 53, [.tmp 4], false,
 .seq (.reg [0, 3] [⟨(some 3), none, .box (.t 1)⟩,
    ⟨(some 4), none, .nres 6⟩]) <|
 .seq (.reg [0, 3, 5] [⟨(some 5), none, .mov (.c (.g (.int .i64 0)))⟩]) <|
 .seq (.block [0, 3, 5] 0 <|
  .loop [0, 3, 5] [] L82_0) <|
 .seq (.reg [0, 3, 5, 6] [⟨(some 23), none, .mk0 6⟩,
    ⟨(some 24), none, .mov (.t 0)⟩,
    ⟨(some 25), none, .mov (.t 5)⟩,
    ⟨(some 26), none, .slc 6 (.t 24) none (some (.t 25))⟩,
    ⟨(some 27), none, .app 6 64 (.t 23) (.t 26)⟩,
    ⟨(some 6), none, .mov (.t 27)⟩]) <|
 .seq (.reg [0, 3, 5, 6] [⟨(some 28), none, .mov (.t 6)⟩,
    ⟨(some 29), none, .load true 6 (.t 3)⟩,
    ⟨(some 30), none, .bslice 6 1 [.str [], .str [], .int .i64 0, .int .i64 0, .int .i64 0, .int .i64 0] [(0, 6, (.t 29))]⟩,
    ⟨(some 31), none, .app 6 64 (.t 28) (.t 30)⟩,
    ⟨(some 6), none, .mov (.t 31)⟩]) <|
 .seq (.seq (.drw [0, 5, 6, 45] 0 <|
   .take ⟨(some 32), none, .mov (.t 5)⟩ <|
   .take ⟨(some 33), none, .mov (.t 0)⟩ <|
   .take ⟨(some 34), none, .len (.t 33)⟩ <|
   .take ⟨(some 35), none, .bin .lss (.t 32) (.t 34)⟩ <|
   .take ⟨(some 36), none, .mov (.t 35)⟩ <|
   .take ⟨(some 37), (some (36, true)), .mov (.t 0)⟩ <|
   .take ⟨(some 38), (some (36, true)), .mov (.t 5)⟩ <|
   .take ⟨(some 39), (some (36, true)), .iaddr 6 (.t 37) (.t 38)⟩ <|
   .take ⟨(some 40), (some (36, true)), .faddr 0 (.t 39)⟩ <|
   .take ⟨(some 41), (some (36, true)), .load false 1 (.t 40)⟩ <|
   .take ⟨(some 42), (some (36, true)), .faddr 0 (.t 3)⟩ <|
   .take ⟨(some 43), (some (36, true)), .load false 1 (.t 42)⟩ <|
   .take ⟨(some 44), (some (36, true)), .bin .eql (.t 41) (.t 43)⟩ <|
   .take ⟨(some 45), none, .pick (.t 36) (.t 44) (.c (.g (.bool false)))⟩ <|
   .leaf) <|
  .cond [0, 5, 6] (.t 45)
   (.reg [0, 5, 6] [⟨(some 46), none, .mov (.t 5)⟩,
      ⟨(some 47), none, .bin .add (.t 46) (.c (.g (.int .i64 1)))⟩,
      ⟨(some 5), none, .mov (.t 47)⟩])
   (.skip)) <|
 .seq (.reg [4] [⟨(some 48), none, .mov (.t 6)⟩,
    ⟨(some 49), none, .mov (.t 0)⟩,
    ⟨(some 50), none, .mov (.t 5)⟩,
    ⟨(some 51), none, .slc 6 (.t 49) (some (.t 50)) none⟩,
    ⟨(some 52), none, .app 6 64 (.t 48) (.t 51)⟩,
    ⟨(some 4), none, .mov (.t 52)⟩]) <|
 .ret⟩
def h82 : List (List Nat) := [[0, 3], [0, 3, 5], [0, 3, 5], [0, 3, 5], [0, 3, 5, 20], [], [0, 3, 5], [0, 3, 5], [0, 3, 5], [0, 3, 5, 6], [0, 3, 5, 6], [0, 5, 6, 45], [], [0, 5, 6], [0, 5, 6], [4]]
theorem c82 : cFunc Try.prog 82 false h82 = some F82 := by kernel_rfl

/-- slices.Clone[[]baton/api.KV,baton/api.KV] -/
def F83 : IFunc := ⟨1, 8, [.tmp 2], false,
 .seq (.reg [0] [⟨(some 2), none, .nres 6⟩]) <|
 .seq (.seq (.reg [0, 4] [⟨(some 3), none, .mov (.t 0)⟩,
     ⟨(some 4), none, .isnilS false (.t 3)⟩]) <|
  .cond [0] (.t 4)
   (.seq (.reg [2] [⟨(some 2), none, .nres 6⟩]) <|
    .ret)
   (.skip)) <|
 .seq (.reg [2] [⟨(some 5), none, .mk0 6⟩,
    ⟨(some 6), none, .mov (.t 0)⟩,
    ⟨(some 7), none, .app 6 64 (.t 5) (.t 6)⟩,
    ⟨(some 2), none, .mov (.t 7)⟩]) <|
 .ret⟩
def h83 : List (List Nat) := [[0], [0, 4], [0], [2], [2]]
theorem c83 : cFunc Try.prog 83 false h83 = some F83 := by kernel_rfl

/-- baton/hist.Take -/
def F84 : IFunc := ⟨2, 23, [.tmp 4], false,
 .seq (.reg [0, 1] [⟨(some 4), none, .nres 6⟩]) <|
 .seq (.reg [0, 5] [⟨(some 6), none, .mov (.t 0)⟩,
    ⟨(some 7), none, .mov (.t 1)⟩,
    ⟨(some 8), none, .call (.c (.g (.fn 75))) [(.t 7)]⟩,
    ⟨(some 9), none, .call (.c (.g (.fn 74))) [(.t 6), (.t 8)]⟩,
    ⟨(some 5), none, .mov (.t 9)⟩]) <|
 .seq (.seq (.reg [0, 5, 11] [⟨(some 10), none, .mov (.t 5)⟩,
     ⟨(some 11), none, .bin .lss (.t 10) (.c (.g (.int .i64 0)))⟩]) <|
  .cond [0, 5] (.t 11)
   (.seq (.reg [4] [⟨(some 12), none, .mov (.t 0)⟩,
       ⟨(some 13), none, .call (.c (.g (.fn 83))) [(.t 12)]⟩,
       ⟨(some 4), none, .mov (.t 13)⟩]) <|
    .ret)
   (.skip)) <|
 .seq (.drw [4] 0 <|
  .free <|
  .take ⟨(some 14), none, .mov (.t 0)⟩ <|
  .take ⟨(some 15), none, .mov (.t 5)⟩ <|
  .take ⟨(some 16), none, .slc 6 (.t 14) none (some (.t 15))⟩ <|
  .take ⟨(some 17), none, .mov (.t 0)⟩ <|
  .take ⟨(some 18), none, .mov (.t 5)⟩ <|
  .take ⟨(some 19), none, .bin .add (.t 18) (.c (.g (.int .i64 1)))⟩ <|
  .take ⟨(some 20), none, .slc 6 (.t 17) (some (.t 19)) none⟩ <|
  .one ⟨(some 21), none, .bslice 1 2 [.nsl] [(0, 1, (.t 16)), (1, 1, (.t 20))]⟩ <|
  .one ⟨(some 22), none, .call (.c (.g (.fn 95))) [(.t 21)]⟩ <|
  .take ⟨(some 4), none, .mov (.t 22)⟩ <|
  .leaf) <|
 .ret⟩
def h84 : List (List Nat) := [[0, 1], [0, 5], [0, 5, 11], [0, 5], [4], [4], []]
theorem c84 : cFunc Try.prog 84 false h84 = some F84 := by kernel_rfl

/-- baton/hist.Lay -/
def L85_0 : IC :=
 .seq (.reg [3, 5, 6, 9, 10, 11, 12] [⟨(some 12), none, .bin .lss (.t 11) (.t 10)⟩]) <|
 .seq (.cond [3, 5, 6, 9, 10, 11] (.t 12)
   (.skip)
   (.exit 0)) <|
 .seq (.block [3, 5, 6, 9, 10, 11] 1 <|
  .seq (.reg [3, 5, 6, 8, 9, 10, 11] [⟨(some 13), none, .iaddr 6 (.t 9) (.t 11)⟩,
     ⟨(some 14), none, .load true 6 (.t 13)⟩,
     ⟨(some 8), none, .alloc [.z (.str []), .z (.str []), .z (.int .i64 0), .z (.int .i64 0), .z (.int .i64 0), .z (.int .i64 0)]⟩,
     ⟨none, none, .store 6 (.t 8) (.t 14)⟩]) <|
  .seq (.block [3, 5, 9, 10, 11] 2 <|
   .seq (.reg [3, 5, 6, 8, 9, 10, 11, 20] [⟨(some 21), none, .mov (.t 6)⟩,
      ⟨(some 22), none, .mov (.t 21)⟩,
      ⟨(some 23), (some (22, false)), .faddr 0 (.t 8)⟩,
      ⟨(some 24), (some (22, false)), .load false 1 (.t 23)⟩,
      ⟨(some 25), (some (22, false)), .faddr 0 (.t 3)⟩,
      ⟨(some 26), (some (22, false)), .load false 1 (.t 25)⟩,
      ⟨(some 27), (some (22, false)), .bin .lss (.t 24) (.t 26)⟩,
      ⟨(some 28), none, .pick (.t 22) (.c (.g (.bool true))) (.t 27)⟩,
      ⟨(some 20), none, .mov (.t 28)⟩]) <|
   .cond [3, 5, 9, 10, 11] (.t 20)
    (.seq (.reg [3, 5, 6, 9, 10, 11] [⟨(some 29), none, .mov (.t 5)⟩,
        ⟨(some 30), none, .load true 6 (.t 8)⟩,
        ⟨(some 31), none, .bslice 6 1 [.str [], .str [], .int .i64 0, .int .i64 0, .int .i64 0, .int .i64 0] [(0, 6, (.t 30))]⟩,
        ⟨(some 32), none, .app 6 64 (.t 29) (.t 31)⟩,
        ⟨(some 5), none, .mov (.t 32)⟩]) <|
     .exit 1)
    (.seq (.reg [3, 5, 8, 9, 10, 11, 33] [⟨(some 34), none, .faddr 0 (.t 8)⟩,
        ⟨(some 35), none, .load false 1 (.t 34)⟩,
        ⟨(some 36), none, .faddr 0 (.t 3)⟩,
        ⟨(some 37), none, .load false 1 (.t 36)⟩,
        ⟨(some 38), none, .bin .eql (.t 35) (.t 37)⟩,
        ⟨(some 33), none, .mov (.t 38)⟩]) <|
     .cond [3, 5, 9, 10, 11] (.t 33)
      (.reg [3, 5, 9, 10, 11] [⟨(some 39), none, .mov (.t 5)⟩,
         ⟨(some 40), none, .load true 6 (.t 3)⟩,
         ⟨(some 41), none, .bslice 6 1 [.str [], .str [], .int .i64 0, .int .i64 0, .int .i64 0, .int .i64 0] [(0, 6, (.t 40))]⟩,
         ⟨(some 42), none, .app 6 64 (.t 39) (.t 41)⟩,
         ⟨(some 5), none, .mov (.t 42)⟩])
      (.reg [3, 5, 9, 10, 11] [⟨(some 15), none, .mov (.t 5)⟩,
         ⟨(some 16), none, .load true 6 (.t 3)⟩,
         ⟨(some 17), none, .load true 6 (.t 8)⟩,
         ⟨(some 18), none, .bslice 6 2 [.str [], .str [], .int .i64 0, .int .i64 0, .int .i64 0, .int .i64 0] [(0, 6, (.t 16)), (6, 6, (.t 17))]⟩,
         ⟨(some 19), none, .app 6 64 (.t 15) (.t 18)⟩,
         ⟨(some 5), none, .mov (.t 19)⟩]))) <|
  .reg [3, 5, 6, 9, 10, 11] [⟨(some 6), none, .mov (.c (.g (.bool true)))⟩]) <|
 .reg [3, 5, 6, 9, 10, 11] [⟨(some 43), none, .bin .add (.t 11) (.c (.g (.int .i64 1)))⟩,
   ⟨(some 11), none, .mov (.t 43)⟩]
def F85 : IFunc := ⟨2, 51, [.tmp 4], false,
 .seq (.reg [0, 3] [⟨(some 3), none, .box (.t 1)⟩,
    ⟨(some 4), none, .nres 6⟩]) <|
 .seq (.reg [0, 3, 5] [⟨(some 5), none, .nres 6⟩]) <|
 .seq (.reg [0, 3, 5, 6] [⟨(some 6), none, .mov (.c (.g (.bool false)))⟩]) <|
 .seq (.skip) <|
 .seq (.seq (.reg [3, 5, 6, 9, 10, 11] [⟨(some 9), none, .mov (.t 0)⟩,
     ⟨(some 10), none, .len (.t 9)⟩,
     ⟨(some 11), none, .mov (.c (.g (.int .i64 0)))⟩]) <|
  .block [3, 5, 6] 0 <|
  .loop [3, 5, 6, 9, 10, 11] [] L85_0) <|
 .seq (.seq (.reg [3, 5, 45] [⟨(some 44), none, .mov (.t 6)⟩,
     ⟨(some 45), none, .un .not (.t 44)⟩]) <|
  .cond [5] (.t 45)
   (.reg [5] [⟨(some 46), none, .mov (.t 5)⟩,
      ⟨(some 47), none, .load true 6 (.t 3)⟩,
      ⟨(some 48), none, .bslice 6 1 [.str [], .str [], .int .i64 0, .int .i64 0, .int .i64 0, .int .i64 0] [(0, 6, (.t 47))]⟩,
      ⟨(some 49), none, .app 6 64 (.t 46) (.t 48)⟩,
      ⟨(some 5), none, .mov (.t 49)⟩])
   (.skip)) <|
 .seq (.reg [4] [⟨(some 50), none, .mov (.t 5)⟩,
    ⟨(some 4), none, .mov (.t 50)⟩]) <|
 .ret⟩
def h85 : List (List Nat) := [[0, 3], [0, 3, 5], [0, 3, 5, 6], [3, 5, 6, 9, 10, 11], [3, 5, 6], [3, 5, 6, 9, 10, 11], [3, 5, 6, 9, 10, 11, 12], [3, 5, 6, 9, 10, 11], [3, 5, 6, 9, 10, 11], [3, 5, 6, 8, 9, 10, 11], [3, 5, 9, 10, 11], [3, 5, 6, 8, 9, 10, 11, 20], [3, 5, 9, 10, 11], [3, 5, 6, 9, 10, 11], [3, 5, 8, 9, 10, 11, 33], [3, 5, 9, 10, 11], [3, 5, 9, 10, 11], [3, 5, 9, 10, 11], [3, 5, 6, 9, 10, 11], [3, 5, 6, 9, 10, 11], [3, 5, 45], [5], [5], [4]]
theorem c85 : cFunc Try.prog 85 false h85 = some F85 := by kernel_rfl

/-- baton/hist.one -/
def F86 : IFunc := ⟨1, 45, [.tmp 2], false,
 .seq (.reg [1] [⟨(some 1), none, .box (.t 0)⟩,
    ⟨(some 2), none, .mov (.c (.g (.bool false)))⟩]) <|
 .seq (.reg [2] [⟨(some 3), none, .faddr 0 (.t 1)⟩,
    ⟨(some 4), none, .load false 1 (.t 3)⟩,
    ⟨(some 5), none, .call (.c (.g (.fn 88))) [(.t 4)]⟩,
    ⟨(some 6), none, .mov (.t 5)⟩,
    ⟨(some 7), (some (6, true)), .faddr 1 (.t 1)⟩,
    ⟨(some 8), (some (6, true)), .load false 1 (.t 7)⟩,
    ⟨(some 9), (some (6, true)), .lenS (.t 8)⟩,
    ⟨(some 10), (some (6, true)), .bin .leq (.t 9) (.c (.g (.int .i64 20)))⟩,
    ⟨(some 11), none, .pick (.t 6) (.t 10) (.c (.g (.bool false)))⟩,
    ⟨(some 12), none, .mov (.t 11)⟩,
    ⟨(some 13), (some (12, true)), .faddr 2 (.t 1)⟩,
    ⟨(some 14), (some (12, true)), .load false 1 (.t 13)⟩,
    ⟨(some 15), (some (12, true)), .call (.c (.g (.fn 96))) [(.t 14), (.c (.g (.int .i64 1)))]⟩,
    ⟨(some 16), none, .pick (.t 12) (.t 15) (.c (.g (.bool false)))⟩,
    ⟨(some 17), none, .mov (.t 16)⟩,
    ⟨(some 18), (some (17, true)), .faddr 3 (.t 1)⟩,
    ⟨(some 19), (some (17, true)), .load false 1 (.t 18)⟩,
    ⟨(some 20), (some (17, true)), .faddr 2 (.t 1)⟩,
    ⟨(some 21), (some (17, true)), .load false 1 (.t 20)⟩,
    ⟨(some 22), (some (17, true)), .call (.c (.g (.fn 96))) [(.t 19), (.t 21)]⟩,
    ⟨(some 23), none, .pick (.t 17) (.t 22) (.c (.g (.bool false)))⟩,
    ⟨(some 24), none, .mov (.t 23)⟩,
    ⟨(some 25), (some (24, true)), .faddr 4 (.t 1)⟩,
    ⟨(some 26), (some (24, true)), .load false 1 (.t 25)⟩,
    ⟨(some 27), (some (24, true)), .bin .geq (.t 26) (.c (.g (.int .i64 1)))⟩,
    ⟨(some 28), none, .pick (.t 24) (.t 27) (.c (.g (.bool false)))⟩,
    ⟨(some 29), none, .mov (.t 28)⟩,
    ⟨(some 30), (some (29, true)), .faddr 4 (.t 1)⟩,
    ⟨(some 31), (some (29, true)), .load false 1 (.t 30)⟩,
    ⟨(some 32), (some (29, true)), .faddr 3 (.t 1)⟩,
    ⟨(some 33), (some (29, true)), .load false 1 (.t 32)⟩,
    ⟨(some 34), (some (29, true)), .faddr 2 (.t 1)⟩,
    ⟨(some 35), (some (29, true)), .load false 1 (.t 34)⟩,
    ⟨(some 36), (some (29, true)), .bin .sub (.t 33) (.t 35)⟩,
    ⟨(some 37), (some (29, true)), .bin .add (.t 36) (.c (.g (.int .i64 1)))⟩,
    ⟨(some 38), (some (29, true)), .bin .leq (.t 31) (.t 37)⟩,
    ⟨(some 39), none, .pick (.t 29) (.t 38) (.c (.g (.bool false)))⟩,
    ⟨(some 40), none, .mov (.t 39)⟩,
    ⟨(some 41), (some (40, true)), .faddr 5 (.t 1)⟩,
    ⟨(some 42), (some (40, true)), .load false 1 (.t 41)⟩,
    ⟨(some 43), (some (40, true)), .call (.c (.g (.fn 96))) [(.t 42), (.c (.g (.int .i64 0)))]⟩,
    ⟨(some 44), none, .pick (.t 40) (.t 43) (.c (.g (.bool false)))⟩,
    ⟨(some 2), none, .mov (.t 44)⟩]) <|
 .ret⟩
def h86 : List (List Nat) := [[1], [2]]
theorem c86 : cFunc Try.prog 86 false h86 = some F86 := by kernel_rfl

/-- baton/mvcc.next -/
def F87 : IFunc := ⟨3, 35, [.cell 6 true 6], false,
 .seq (.reg [0, 2, 4, 6] [⟨(some 4), none, .box (.t 1)⟩,
    ⟨(some 6), none, .alloc [.z (.str []), .z (.str []), .z (.int .i64 0), .z (.int .i64 0), .z (.int .i64 0), .z (.int .i64 0)]⟩]) <|
 .seq (.reg [0, 4, 6, 7] [⟨(some 10), none, .faddr 1 (.t 4)⟩,
    ⟨(some 11), none, .load false 1 (.t 10)⟩,
    ⟨(some 12), none, .faddr 2 (.t 4)⟩,
    ⟨(some 13), none, .load false 1 (.t 12)⟩,
    ⟨(some 14), none, .mov (.t 2)⟩,
    ⟨(some 15), none, .mov (.t 2)⟩,
    ⟨(some 16), none, .faddr 3 (.t 4)⟩,
    ⟨(some 17), none, .load false 1 (.t 16)⟩,
    ⟨(some 18), none, .build [.g (.str []), .g (.str []), .g (.int .i64 0), .g (.int .i64 0), .g (.int .i64 0), .g (.int .i64 0)] [(0, 1, (.t 11)), (1, 1, (.t 13)), (2, 1, (.t 14)), (3, 1, (.t 15)), (4, 1, (.c (.g (.int .i64 1)))), (5, 1, (.t 17))]⟩,
    ⟨(some 7), none, .alloc [.z (.str []), .z (.str []), .z (.int .i64 0), .z (.int .i64 0), .z (.int .i64 0), .z (.int .i64 0)]⟩,
    ⟨none, none, .store 6 (.t 7) (.t 18)⟩]) <|
 .seq (.seq (.reg [6, 7, 8, 9] [⟨(some 20), none, .mov (.t 0)⟩,
     ⟨(some 21), none, .faddr 1 (.t 4)⟩,
     ⟨(some 22), none, .load false 1 (.t 21)⟩,
     ⟨(some 23), none, .call (.c (.g (.fn 53))) [(.t 20), (.t 22)]⟩,
     ⟨(some 19), none, .mov (.t 23)⟩,
     ⟨(some 24), none, .ext 0 (.t 19)⟩,
     ⟨(some 25), none, .ext 1 (.t 19)⟩,
     ⟨(some 8), none, .alloc [.z (.str []), .z (.str []), .z (.int .i64 0), .z (.int .i64 0), .z (.int .i64 0), .z (.int .i64 0)]⟩,
     ⟨none, none, .store 6 (.t 8) (.t 24)⟩,
     ⟨(some 9), none, .mov (.t 25)⟩]) <|
  .seq (.reg [6, 7, 8, 26] [⟨(some 26), none, .mov (.t 9)⟩]) <|
  .cond [6, 7] (.t 26)
   (.drw [6, 7] 0 <|
    .take ⟨(some 27), none, .faddr 2 (.t 8)⟩ <|
    .take ⟨(some 28), none, .load false 1 (.t 27)⟩ <|
    .take ⟨(some 29), none, .faddr 4 (.t 8)⟩ <|
    .take ⟨(some 30), none, .load false 1 (.t 29)⟩ <|
    .take ⟨(some 31), none, .bin .add (.t 30) (.c (.g (.int .i64 1)))⟩ <|
    .take ⟨(some 32), none, .faddr 2 (.t 7)⟩ <|
    .one ⟨none, none, .store 1 (.t 32) (.t 28)⟩ <|
    .free <|
    .take ⟨(some 33), none, .faddr 4 (.t 7)⟩ <|
    .one ⟨none, none, .store 1 (.t 33) (.t 31)⟩ <|
    .leaf)
   (.skip)) <|
 .seq (.reg [6] [⟨(some 34), none, .load true 6 (.t 7)⟩,
    ⟨none, none, .store 6 (.t 6) (.t 34)⟩]) <|
 .ret⟩
def h87 : List (List Nat) := [[0, 2, 4, 6], [0, 4, 6, 7], [6, 7, 8, 9], [6, 7, 8, 26], [6, 7], [6, 7], [], [6]]
theorem c87 : cFunc Try.prog 87 false h87 = some F87 := by kernel_rfl

/-- baton/key.Check -/
def F88 : IFunc := ⟨1, 5, [.tmp 2], false,
 .seq (.reg [0] [⟨(some 2), none, .mov (.c (.g (.bool false)))⟩]) <|
 .seq (.reg [2] [⟨(some 3), none, .mov (.t 0)⟩,
    ⟨(some 4), none, .call (.c (.g (.fn 97))) [(.t 3), (.c (.g (.int .i64 40))), (.c (.g (.fn 98)))]⟩,
    ⟨(some 2), none, .mov (.t 4)⟩]) <|
 .ret⟩
def h88 : List (List Nat) := [[0], [2]]
theorem c88 : cFunc Try.prog 88 false h88 = some F88 := by kernel_rfl

/-- slices.Grow[[]baton/api.Event,baton/api.Event] -/
def F89 : IFunc := ⟨2, 27, [.tmp 4], true,
 .seq (.reg [0, 1] [⟨(some 4), none, .nres 8⟩]) <|
 .seq (.seq (.reg [0, 1, 6] [⟨(some 5), none, .mov (.t 1)⟩,
     ⟨(some 6), none, .bin .lss (.t 5) (.c (.g (.int .i64 0)))⟩]) <|
  .cond [0, 1] (.t 6)
   (.reg [0, 1] [⟨(some 7), none, .mkif 9 (.c (.g (.str [99, 97, 110, 110, 111, 116, 32, 98, 101, 32, 110, 101, 103, 97, 116, 105, 118, 101])))⟩,
      ⟨none, none, .row 0 []⟩])
   (.skip)) <|
 .seq (.seq (.reg [0, 1] [⟨(some 8), none, .mov (.t 1)⟩,
     ⟨(some 9), none, .mov (.t 0)⟩,
     ⟨(some 10), none, .cap (.t 9)⟩,
     ⟨(some 11), none, .mov (.t 0)⟩,
     ⟨(some 12), none, .len (.t 11)⟩,
     ⟨(some 13), none, .bin .sub (.t 10) (.t 12)⟩,
     ⟨(some 14), none, .bin .sub (.t 8) (.t 13)⟩,
     ⟨(some 1), none, .mov (.t 14)⟩]) <|
  .seq (.reg [0, 1, 16] [⟨(some 15), none, .mov (.t 1)⟩,
     ⟨(some 16), none, .bin .gtr (.t 15) (.c (.g (.int .i64 0)))⟩]) <|
  .cond [0] (.t 16)
   (.reg [0] [⟨(some 17), none, .mov (.t 0)⟩,
      ⟨(some 18), none, .mov (.t 0)⟩,
      ⟨(some 19), none, .cap (.t 18)⟩,
      ⟨(some 20), none, .slc 8 (.t 17) none (some (.t 19))⟩,
      ⟨(some 21), none, .mov (.t 1)⟩,
      ⟨(some 22), none, .appZ 8 80 [.int .i64 0, .bool false, .str [], .str [], .int .i64 0, .int .i64 0, .int .i64 0, .int .i64 0] (.t 20) (.t 21)⟩,
      ⟨(some 23), none, .mov (.t 0)⟩,
      ⟨(some 24), none, .len (.t 23)⟩,
      ⟨(some 25), none, .slc 8 (.t 22) none (some (.t 24))⟩,
      ⟨(some 0), none, .mov (.t 25)⟩])
   (.skip)) <|
 .seq (.reg [4] [⟨(some 26), none, .mov (.t 0)⟩,
    ⟨(some 4), none, .mov (.t 26)⟩]) <|
 .ret⟩
def h89 : List (List Nat) := [[0, 1], [0, 1, 6], [0, 1], [0, 1], [0, 1], [0, 1, 16], [0], [0], [4]]
theorem c89 : cFunc Try.prog 89 true h89 = some F89 := by kernel_rfl

/-- baton/batonref02.Check -/
def L90_0 : IC :=
 .seq (.seq (.reg [0, 3, 15] [⟨(some 12), none, .mov (.t 3)⟩,
     ⟨(some 13), none, .mov (.t 0)⟩,
     ⟨(some 14), none, .lenS (.t 13)⟩,
     ⟨(some 15), none, .bin .lss (.t 12) (.t 14)⟩]) <|
  .cond [0, 3] (.t 15)
   (.skip)
   (.exit 0)) <|
 .seq (.block [0, 3] 1 <|
  .seq (.reg [0, 3, 27] [⟨(some 18), none, .mov (.t 0)⟩,
     ⟨(some 19), none, .mov (.t 3)⟩,
     ⟨(some 20), none, .index (.t 18) (.t 19)⟩,
     ⟨(some 21), none, .bin .lss (.t 20) (.c (.g (.int .u8 33)))⟩,
     ⟨(some 22), none, .mov (.t 21)⟩,
     ⟨(some 23), (some (22, false)), .mov (.t 0)⟩,
     ⟨(some 24), (some (22, false)), .mov (.t 3)⟩,
     ⟨(some 25), (some (22, false)), .index (.t 23) (.t 24)⟩,
     ⟨(some 26), (some (22, false)), .bin .gtr (.t 25) (.c (.g (.int .u8 126)))⟩,
     ⟨(some 27), none, .pick (.t 22) (.c (.g (.bool true))) (.t 26)⟩]) <|
  .cond [0, 3] (.t 27)
   (.seq (.reg [2] [⟨(some 2), none, .mov (.c (.g (.bool false)))⟩]) <|
    .ret)
   (.skip)) <|
 .reg [0, 3] [⟨(some 16), none, .mov (.t 3)⟩,
   ⟨(some 17), none, .bin .add (.t 16) (.c (.g (.int .i64 1)))⟩,
   ⟨(some 3), none, .mov (.t 17)⟩]
def F90 : IFunc := ⟨1, 28, [.tmp 2], false,
 .seq (.reg [0] [⟨(some 2), none, .mov (.c (.g (.bool false)))⟩]) <|
 .seq (.seq (.reg [0, 11] [⟨(some 4), none, .mov (.t 0)⟩,
     ⟨(some 5), none, .lenS (.t 4)⟩,
     ⟨(some 6), none, .bin .lss (.t 5) (.c (.g (.int .i64 1)))⟩,
     ⟨(some 7), none, .mov (.t 6)⟩,
     ⟨(some 8), (some (7, false)), .mov (.t 0)⟩,
     ⟨(some 9), (some (7, false)), .lenS (.t 8)⟩,
     ⟨(some 10), (some (7, false)), .bin .gtr (.t 9) (.c (.g (.int .i64 40)))⟩,
     ⟨(some 11), none, .pick (.t 7) (.c (.g (.bool true))) (.t 10)⟩]) <|
  .cond [0] (.t 11)
   (.seq (.reg [2] [⟨(some 2), none, .mov (.c (.g (.bool false)))⟩]) <|
    .ret)
   (.skip)) <|
 .seq (.seq (.reg [0, 3] [⟨(some 3), none, .mov (.c (.g (.int .i64 0)))⟩]) <|
  .block [] 0 <|
  .loop [0, 3] [] L90_0) <|
 .seq (.reg [2] [⟨(some 2), none, .mov (.c (.g (.bool true)))⟩]) <|
 .ret⟩
def h90 : List (List Nat) := [[0], [0, 11], [0], [2], [0, 3], [], [0, 3], [0, 3, 15], [0, 3], [0, 3], [0, 3, 27], [0, 3], [2], [0, 3], [2]]
theorem c90 : cFunc Try.prog 90 false h90 = some F90 := by kernel_rfl

/-- slices.IndexFunc[[]baton/api.Event,baton/api.Event] -/
def L91_0 : IC :=
 .seq (.reg [0, 1, 7, 8, 9] [⟨(some 9), none, .bin .lss (.t 8) (.t 7)⟩]) <|
 .seq (.cond [0, 1, 7, 8] (.t 9)
   (.skip)
   (.exit 0)) <|
 .seq (.block [0, 1, 7, 8] 1 <|
  .seq (.reg [0, 1, 5, 7, 8] [⟨(some 10), none, .mov (.t 8)⟩,
     ⟨(some 5), none, .mov (.t 10)⟩]) <|
  .seq (.reg [0, 1, 5, 7, 8, 16] [⟨(some 11), none, .mov (.t 1)⟩,
     ⟨(some 12), none, .mov (.t 0)⟩,
     ⟨(some 13), none, .mov (.t 5)⟩,
     ⟨(some 14), none, .iaddr 8 (.t 12) (.t 13)⟩,
     ⟨(some 15), none, .load true 8 (.t 14)⟩,
     ⟨(some 16), none, .call (.t 11) [(.t 15)]⟩]) <|
  .cond [0, 1, 7, 8] (.t 16)
   (.seq (.reg [4] [⟨(some 17), none, .mov (.t 5)⟩,
       ⟨(some 4), none, .mov (.t 17)⟩]) <|
    .ret)
   (.skip)) <|
 .reg [0, 1, 7, 8] [⟨(some 18), none, .bin .add (.t 8) (.c (.g (.int .i64 1)))⟩,
   ⟨(some 8), none, .mov (.t 18)⟩]
def F91 : IFunc := ⟨2, 19, [.tmp 4], false,
 .seq (.reg [0, 1] [⟨(some 4), none, .mov (.c (.g (.int .i64 0)))⟩]) <|
 .seq (.seq (.reg [0, 1, 7, 8] [⟨(some 6), none, .mov (.t 0)⟩,
     ⟨(some 7), none, .len (.t 6)⟩,
     ⟨(some 8), none, .mov (.c (.g (.int .i64 0)))⟩]) <|
  .block [] 0 <|
  .loop [0, 1, 7, 8] [] L91_0) <|
 .seq (.reg [4] [⟨(some 4), none, .mov (.c (.g (.int .i64 (-1))))⟩]) <|
 .ret⟩
def h91 : List (List Nat) := [[0, 1], [0, 1, 7, 8], [], [0, 1, 7, 8], [0, 1, 7, 8, 9], [0, 1, 7, 8], [0, 1, 7, 8], [0, 1, 5, 7, 8], [0, 1, 5, 7, 8, 16], [0, 1, 7, 8], [4], [0, 1, 7, 8], [4]]
theorem c91 : cFunc Try.prog 91 false h91 = some F91 := by kernel_rfl

/-- baton/hist.is$1 -/
def F92 : IFunc := ⟨2, 8, [.tmp 3], false,
 .seq (.reg [1, 2] [⟨(some 2), none, .box (.t 0)⟩,
    ⟨(some 3), none, .mov (.c (.g (.bool false)))⟩]) <|
 .seq (.reg [3] [⟨(some 4), none, .faddr 0 (.t 2)⟩,
    ⟨(some 5), none, .load false 1 (.t 4)⟩,
    ⟨(some 6), none, .load false 1 (.t 1)⟩,
    ⟨(some 7), none, .bin .eql (.t 5) (.t 6)⟩,
    ⟨(some 3), none, .mov (.t 7)⟩]) <|
 .ret⟩
def h92 : List (List Nat) := [[1, 2], [3]]
theorem c92 : cFunc Try.prog 92 false h92 = some F92 := by kernel_rfl

/-- cmp.Compare[int] -/
def F93 : IFunc := ⟨2, 20, [.tmp 4], false,
 .seq (.reg [0, 1] [⟨(some 4), none, .mov (.c (.g (.int .i64 0)))⟩]) <|
 .seq (.reg [0, 1, 5] [⟨(some 7), none, .mov (.t 0)⟩,
    ⟨(some 8), none, .call (.c (.g (.fn 99))) [(.t 7)]⟩,
    ⟨(some 5), none, .mov (.t 8)⟩]) <|
 .seq (.reg [0, 1, 5, 6] [⟨(some 9), none, .mov (.t 1)⟩,
    ⟨(some 10), none, .call (.c (.g (.fn 99))) [(.t 9)]⟩,
    ⟨(some 6), none, .mov (.t 10)⟩]) <|
 .seq (.seq (.reg [0, 1, 6, 11] [⟨(some 11), none, .mov (.t 5)⟩]) <|
  .cond [0, 1, 6] (.t 11)
   (.seq (.seq (.reg [12] [⟨(some 12), none, .mov (.t 6)⟩]) <|
     .cond [] (.t 12)
      (.seq (.reg [4] [⟨(some 4), none, .mov (.c (.g (.int .i64 0)))⟩]) <|
       .ret)
      (.skip)) <|
    .seq (.reg [4] [⟨(some 4), none, .mov (.c (.g (.int .i64 (-1))))⟩]) <|
    .ret)
   (.skip)) <|
 .seq (.seq (.reg [0, 1, 13] [⟨(some 13), none, .mov (.t 6)⟩]) <|
  .cond [0, 1] (.t 13)
   (.seq (.reg [4] [⟨(some 4), none, .mov (.c (.g (.int .i64 1)))⟩]) <|
    .ret)
   (.skip)) <|
 .seq (.seq (.reg [0, 1, 16] [⟨(some 14), none, .mov (.t 0)⟩,
     ⟨(some 15), none, .mov (.t 1)⟩,
     ⟨(some 16), none, .bin .lss (.t 14) (.t 15)⟩]) <|
  .cond [0, 1] (.t 16)
   (.seq (.reg [4] [⟨(some 4), none, .mov (.c (.g (.int .i64 (-1))))⟩]) <|
    .ret)
   (.skip)) <|
 .seq (.seq (.reg [19] [⟨(some 17), none, .mov (.t 0)⟩,
     ⟨(some 18), none, .mov (.t 1)⟩,
     ⟨(some 19), none, .bin .gtr (.t 17) (.t 18)⟩]) <|
  .cond [] (.t 19)
   (.seq (.reg [4] [⟨(some 4), none, .mov (.c (.g (.int .i64 1)))⟩]) <|
    .ret)
   (.skip)) <|
 .seq (.reg [4] [⟨(some 4), none, .mov (.c (.g (.int .i64 0)))⟩]) <|
 .ret⟩
def h93 : List (List Nat) := [[0, 1], [0, 1, 5], [0, 1, 5, 6], [0, 1, 6, 11], [0, 1, 6], [12], [], [4], [4], [0, 1, 13], [0, 1], [4], [0, 1, 16], [0, 1], [4], [19], [], [4], [4]]
theorem c93 : cFunc Try.prog 93 false h93 = some F93 := by kernel_rfl

end Go.Proofs.Ytnbclicefmpkiaa
