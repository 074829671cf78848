/- The compiled functions of the seat, part IRe2. No conditions. -/
import Derived.Test.YtibnbcljmfigfaaAMJ4
import Derived.Test.YtibnbcljmfigfaaProg
import Derived.KernelRfl
namespace Go.Proofs.Ytibnbcljmfigfaa
open Go Go.AM Go.Proofs
noncomputable section
def L36_0 : IC :=
 .seq (.seq (.reg [1, 8, 13, 14, 15, 16, 17, 66] [⟨some 62, none, .mov (.t 17)⟩,
     ⟨some 63, none, .faddr 0 (.t 13)⟩,
     ⟨some 64, none, .load false 1 (.t 63)⟩,
     ⟨some 65, none, .len (.t 64)⟩,
     ⟨some 66, none, .bin .lss (.t 62) (.t 65)⟩]) <|
  .cond [1, 8, 13, 14, 15, 16, 17] (.t 66)
   (.skip)
   (.exit 0)) <|
 .seq (.block [1, 8, 13, 14, 15, 16, 17] 1 <|
  .seq (.seq (.drw [1, 8, 13, 14, 15, 16, 17, 92] 0 <|
    .take ⟨some 69, none, .mov (.t 16)⟩ <|
    .take ⟨some 70, none, .un .not (.t 69)⟩ <|
    .take ⟨some 71, none, .mov (.t 70)⟩ <|
    .take ⟨some 72, (some (71, true)), .faddr 0 (.t 13)⟩ <|
    .take ⟨some 73, (some (71, true)), .load false 1 (.t 72)⟩ <|
    .take ⟨some 74, (some (71, true)), .mov (.t 17)⟩ <|
    .take ⟨some 75, (some (71, true)), .iaddr 11 (.t 73) (.t 74)⟩ <|
    .take ⟨some 76, (some (71, true)), .faddr 0 (.t 75)⟩ <|
    .take ⟨some 77, (some (71, true)), .load false 1 (.t 76)⟩ <|
    .take ⟨some 78, (some (71, true)), .mov (.t 1)⟩ <|
    .take ⟨some 79, (some (71, true)), .bin .eql (.t 77) (.t 78)⟩ <|
    .take ⟨some 80, none, .pick (.t 71) (.t 79) (.c (.g (.bool false)))⟩ <|
    .take ⟨some 81, none, .mov (.t 80)⟩ <|
    .take ⟨some 82, (some (81, true)), .faddr 0 (.t 13)⟩ <|
    .take ⟨some 83, (some (81, true)), .load false 1 (.t 82)⟩ <|
    .take ⟨some 84, (some (81, true)), .mov (.t 17)⟩ <|
    .take ⟨some 85, (some (81, true)), .iaddr 11 (.t 83) (.t 84)⟩ <|
    .take ⟨some 86, (some (81, true)), .faddr 1 (.t 85)⟩ <|
    .take ⟨some 87, (some (81, true)), .load false 1 (.t 86)⟩ <|
    .take ⟨some 88, (some (81, true)), .mov (.t 14)⟩ <|
    .take ⟨some 89, (some (81, true)), .iaddr 1 (.t 88) (.c (.g (.int .i64 0)))⟩ <|
    .take ⟨some 90, (some (81, true)), .load false 1 (.t 89)⟩ <|
    .take ⟨some 91, (some (81, true)), .bin .eql (.t 87) (.t 90)⟩ <|
    .take ⟨some 92, none, .pick (.t 81) (.t 91) (.c (.g (.bool false)))⟩ <|
    .leaf) <|
   .cond [1, 8, 13, 14, 15, 16, 17] (.t 92)
    (.seq (.reg [1, 8, 13, 14, 15, 16, 17] [⟨some 16, none, .mov (.c (.g (.bool true)))⟩]) <|
     .exit 1)
    (.skip)) <|
  .reg [1, 8, 13, 14, 15, 16, 17] [⟨some 93, none, .mov (.t 15)⟩,
    ⟨some 94, none, .faddr 0 (.t 13)⟩,
    ⟨some 95, none, .load false 1 (.t 94)⟩,
    ⟨some 96, none, .mov (.t 17)⟩,
    ⟨some 97, none, .iaddr 11 (.t 95) (.t 96)⟩,
    ⟨some 98, none, .load true 11 (.t 97)⟩,
    ⟨some 99, none, .bslice 11 1 [.int .i64 0, .int .i64 0, .int .i64 0, .int .i64 0, .int .i64 0, .int .i64 0, .int .i64 0, .int .i64 0, .bool false, .nsl, .nsl] [(0, 11, (.t 98))]⟩,
    ⟨some 100, none, .app 11 120 (.t 93) (.t 99)⟩,
    ⟨some 15, none, .mov (.t 100)⟩]) <|
 .reg [1, 8, 13, 14, 15, 16, 17] [⟨some 67, none, .mov (.t 17)⟩,
   ⟨some 68, none, .bin .add (.t 67) (.c (.g (.int .i64 1)))⟩,
   ⟨some 17, none, .mov (.t 68)⟩]
def L36_1 : IC :=
 .seq (.seq (.reg [1, 8, 13, 14, 18, 107] [⟨some 103, none, .mov (.t 18)⟩,
     ⟨some 104, none, .faddr 1 (.t 13)⟩,
     ⟨some 105, none, .load false 1 (.t 104)⟩,
     ⟨some 106, none, .len (.t 105)⟩,
     ⟨some 107, none, .bin .lss (.t 103) (.t 106)⟩]) <|
  .cond [1, 8, 13, 14, 18] (.t 107)
   (.skip)
   (.exit 2)) <|
 .seq (.block [1, 8, 13, 14, 18] 3 <|
  .seq (.reg [1, 8, 13, 14, 18, 117] [⟨some 110, none, .faddr 1 (.t 13)⟩,
     ⟨some 111, none, .load false 1 (.t 110)⟩,
     ⟨some 112, none, .mov (.t 18)⟩,
     ⟨some 113, none, .iaddr 2 (.t 111) (.t 112)⟩,
     ⟨some 114, none, .faddr 0 (.t 113)⟩,
     ⟨some 115, none, .load false 1 (.t 114)⟩,
     ⟨some 116, none, .mov (.t 1)⟩,
     ⟨some 117, none, .bin .eql (.t 115) (.t 116)⟩]) <|
  .cond [1, 8, 13, 14, 18] (.t 117)
   (.seq (.drw [8, 13] 0 <|
     .take ⟨some 118, none, .faddr 1 (.t 13)⟩ <|
     .take ⟨some 119, none, .load false 1 (.t 118)⟩ <|
     .take ⟨some 120, none, .mov (.t 18)⟩ <|
     .take ⟨some 121, none, .faddr 1 (.t 13)⟩ <|
     .take ⟨some 122, none, .load false 1 (.t 121)⟩ <|
     .take ⟨some 123, none, .mov (.t 18)⟩ <|
     .take ⟨some 124, none, .iaddr 2 (.t 122) (.t 123)⟩ <|
     .take ⟨some 125, none, .faddr 1 (.t 124)⟩ <|
     .take ⟨some 126, none, .load false 1 (.t 125)⟩ <|
     .take ⟨some 127, none, .mov (.t 14)⟩ <|
     .take ⟨some 128, none, .iaddr 1 (.t 127) (.c (.g (.int .i64 0)))⟩ <|
     .take ⟨some 129, none, .load false 1 (.t 128)⟩ <|
     .take ⟨some 130, none, .mx (.t 126) [(.t 129)]⟩ <|
     .free <|
     .take ⟨some 131, none, .iaddr 2 (.t 119) (.t 120)⟩ <|
     .take ⟨some 132, none, .faddr 1 (.t 131)⟩ <|
     .one ⟨none, none, .store 1 (.t 132) (.t 130)⟩ <|
     .leaf) <|
    .seq (.reg [8, 9] [⟨some 133, none, .load true 2 (.t 13)⟩,
       ⟨none, none, .store 2 (.t 8) (.t 133)⟩,
       ⟨some 9, none, .mov (.c (.g (.int .i64 0)))⟩]) <|
    .ret)
   (.skip)) <|
 .reg [1, 8, 13, 14, 18] [⟨some 108, none, .mov (.t 18)⟩,
   ⟨some 109, none, .bin .add (.t 108) (.c (.g (.int .i64 1)))⟩,
   ⟨some 18, none, .mov (.t 109)⟩]
def F36 : IFunc := ⟨4, 145, [.cell 8 true 2, .tmp 9], false,
 .seq (.reg [1, 2, 4, 7, 8] [⟨some 4, none, .box (.t 0)⟩,
    ⟨some 7, none, .box (.t 3)⟩,
    ⟨some 8, none, .alloc [.s 11, .s 2]⟩,
    ⟨some 9, none, .mov (.c (.g (.int .i64 0)))⟩]) <|
 .seq (.reg [1, 2, 4, 7, 8, 11, 12] [⟨some 20, none, .load true 2 (.t 4)⟩,
    ⟨some 21, none, .mov (.t 1)⟩,
    ⟨some 22, none, .mov (.t 2)⟩,
    ⟨some 23, none, .call (.c (.g (.fn 34))) [(.t 20), (.t 21), (.t 22)]⟩,
    ⟨some 19, none, .mov (.t 23)⟩,
    ⟨some 24, none, .ext 0 (.t 19)⟩,
    ⟨some 25, none, .ext 1 (.t 19)⟩,
    ⟨some 26, none, .ext 2 (.t 19)⟩,
    ⟨some 10, none, .alloc [.z (.int .i64 0), .z (.int .i64 0), .z (.int .i64 0), .z (.int .i64 0), .z (.int .i64 0), .z (.int .i64 0), .z (.bool false), .s 6, .s 8]⟩,
    ⟨none, none, .store 9 (.t 10) (.t 24)⟩,
    ⟨some 11, none, .mov (.t 25)⟩,
    ⟨some 12, none, .mov (.t 26)⟩]) <|
 .seq (.seq (.reg [1, 2, 4, 7, 8, 12, 27] [⟨some 27, none, .mov (.t 11)⟩]) <|
  .cond [1, 2, 4, 7, 8, 12] (.t 27)
   (.seq (.reg [8, 9] [⟨some 28, none, .load true 2 (.t 4)⟩,
       ⟨none, none, .store 2 (.t 8) (.t 28)⟩,
       ⟨some 9, none, .mov (.c (.g (.int .i64 11)))⟩]) <|
    .ret)
   (.skip)) <|
 .seq (.seq (.reg [1, 2, 4, 7, 8, 12, 30] [⟨some 29, none, .mov (.t 12)⟩,
     ⟨some 30, none, .bin .neq (.t 29) (.c (.g (.int .i64 0)))⟩]) <|
  .cond [1, 2, 4, 7, 8] (.t 30)
   (.seq (.reg [8, 9] [⟨some 31, none, .load true 2 (.t 4)⟩,
       ⟨some 32, none, .mov (.t 12)⟩,
       ⟨none, none, .store 2 (.t 8) (.t 31)⟩,
       ⟨some 9, none, .mov (.t 32)⟩]) <|
    .ret)
   (.skip)) <|
 .seq (.reg [1, 2, 4, 7, 8, 13] [⟨some 33, none, .build [.g (.nsl), .g (.nsl)] []⟩,
    ⟨some 13, none, .alloc [.s 11, .s 2]⟩,
    ⟨none, none, .store 2 (.t 13) (.t 33)⟩]) <|
 .seq (.reg [1, 2, 4, 7, 8, 13] [⟨some 34, none, .faddr 0 (.t 13)⟩,
    ⟨some 35, none, .load false 1 (.t 34)⟩,
    ⟨some 36, none, .faddr 0 (.t 4)⟩,
    ⟨some 37, none, .load false 1 (.t 36)⟩,
    ⟨some 38, none, .app 11 120 (.t 35) (.t 37)⟩,
    ⟨some 39, none, .faddr 0 (.t 13)⟩,
    ⟨none, none, .store 1 (.t 39) (.t 38)⟩]) <|
 .seq (.reg [1, 4, 8, 13] [⟨some 40, none, .faddr 0 (.t 13)⟩,
    ⟨some 41, none, .load false 1 (.t 40)⟩,
    ⟨some 42, none, .mov (.t 1)⟩,
    ⟨some 43, none, .mov (.t 2)⟩,
    ⟨some 44, none, .load true 9 (.t 7)⟩,
    ⟨some 45, none, .build [.g (.int .i64 0), .g (.int .i64 0), .g (.int .i64 0), .g (.int .i64 0), .g (.int .i64 0), .g (.int .i64 0), .g (.int .i64 0), .g (.int .i64 0), .g (.bool false), .g (.nsl), .g (.nsl)] [(0, 1, (.t 42)), (1, 1, (.t 43)), (2, 9, (.t 44))]⟩,
    ⟨some 46, none, .bslice 11 1 [.int .i64 0, .int .i64 0, .int .i64 0, .int .i64 0, .int .i64 0, .int .i64 0, .int .i64 0, .int .i64 0, .bool false, .nsl, .nsl] [(0, 11, (.t 45))]⟩,
    ⟨some 47, none, .app 11 120 (.t 41) (.t 46)⟩,
    ⟨some 48, none, .faddr 0 (.t 13)⟩,
    ⟨none, none, .store 1 (.t 48) (.t 47)⟩]) <|
 .seq (.reg [1, 8, 13] [⟨some 49, none, .faddr 1 (.t 13)⟩,
    ⟨some 50, none, .load false 1 (.t 49)⟩,
    ⟨some 51, none, .faddr 1 (.t 4)⟩,
    ⟨some 52, none, .load false 1 (.t 51)⟩,
    ⟨some 53, none, .app 2 16 (.t 50) (.t 52)⟩,
    ⟨some 54, none, .faddr 1 (.t 13)⟩,
    ⟨none, none, .store 1 (.t 54) (.t 53)⟩]) <|
 .seq (.reg [1, 8, 13, 14] [⟨some 55, none, .load true 2 (.t 13)⟩,
    ⟨some 56, none, .mov (.t 1)⟩,
    ⟨some 57, none, .call (.c (.g (.fn 70))) [(.t 55), (.t 56)]⟩,
    ⟨some 14, none, .mov (.t 57)⟩]) <|
 .seq (.seq (.reg [1, 8, 13, 14, 60] [⟨some 58, none, .mov (.t 14)⟩,
     ⟨some 59, none, .len (.t 58)⟩,
     ⟨some 60, none, .bin .leq (.t 59) (.c (.g (.int .i64 4)))⟩]) <|
  .cond [1, 8, 13, 14] (.t 60)
   (.seq (.reg [8, 9] [⟨some 61, none, .load true 2 (.t 13)⟩,
       ⟨none, none, .store 2 (.t 8) (.t 61)⟩,
       ⟨some 9, none, .mov (.c (.g (.int .i64 0)))⟩]) <|
    .ret)
   (.skip)) <|
 .seq (.reg [1, 8, 13, 14, 15] [⟨some 15, none, .nres 11⟩]) <|
 .seq (.reg [1, 8, 13, 14, 15, 16] [⟨some 16, none, .mov (.c (.g (.bool false)))⟩]) <|
 .seq (.seq (.reg [1, 8, 13, 14, 15, 16, 17] [⟨some 17, none, .mov (.c (.g (.int .i64 0)))⟩]) <|
  .block [1, 8, 13, 14, 15] 0 <|
  .loop [1, 8, 13, 14, 15, 16, 17] [] L36_0) <|
 .seq (.reg [1, 8, 13, 14] [⟨some 101, none, .mov (.t 15)⟩,
    ⟨some 102, none, .faddr 0 (.t 13)⟩,
    ⟨none, none, .store 1 (.t 102) (.t 101)⟩]) <|
 .seq (.seq (.reg [1, 8, 13, 14, 18] [⟨some 18, none, .mov (.c (.g (.int .i64 0)))⟩]) <|
  .block [1, 8, 13, 14] 2 <|
  .loop [1, 8, 13, 14, 18] [] L36_1) <|
 .seq (.drw [8, 13] 0 <|
  .take ⟨some 134, none, .faddr 1 (.t 13)⟩ <|
  .take ⟨some 135, none, .load false 1 (.t 134)⟩ <|
  .take ⟨some 136, none, .mov (.t 1)⟩ <|
  .take ⟨some 137, none, .mov (.t 14)⟩ <|
  .take ⟨some 138, none, .iaddr 1 (.t 137) (.c (.g (.int .i64 0)))⟩ <|
  .take ⟨some 139, none, .load false 1 (.t 138)⟩ <|
  .take ⟨some 140, none, .build [.g (.int .i64 0), .g (.int .i64 0)] [(0, 1, (.t 136)), (1, 1, (.t 139))]⟩ <|
  .one ⟨some 141, none, .bslice 2 1 [.int .i64 0, .int .i64 0] [(0, 2, (.t 140))]⟩ <|
  .one ⟨some 142, none, .app 2 16 (.t 135) (.t 141)⟩ <|
  .free <|
  .take ⟨some 143, none, .faddr 1 (.t 13)⟩ <|
  .one ⟨none, none, .store 1 (.t 143) (.t 142)⟩ <|
  .leaf) <|
 .seq (.reg [8, 9] [⟨some 144, none, .load true 2 (.t 13)⟩,
    ⟨none, none, .store 2 (.t 8) (.t 144)⟩,
    ⟨some 9, none, .mov (.c (.g (.int .i64 0)))⟩]) <|
 .ret⟩
def h36 : List (List Nat) := [[1, 2, 4, 7, 8], [1, 2, 4, 7, 8, 11, 12], [1, 2, 4, 7, 8, 12, 27], [1, 2, 4, 7, 8, 12], [8, 9], [1, 2, 4, 7, 8, 12, 30], [1, 2, 4, 7, 8], [8, 9], [1, 2, 4, 7, 8, 13], [1, 2, 4, 7, 8, 13], [1, 4, 8, 13], [1, 8, 13], [1, 8, 13, 14], [1, 8, 13, 14, 60], [1, 8, 13, 14], [8, 9], [1, 8, 13, 14, 15], [1, 8, 13, 14, 15, 16], [1, 8, 13, 14, 15, 16, 17], [1, 8, 13, 14, 15], [1, 8, 13, 14, 15, 16, 17], [1, 8, 13, 14, 15, 16, 17, 66], [1, 8, 13, 14, 15, 16, 17], [1, 8, 13, 14, 15, 16, 17], [1, 8, 13, 14, 15, 16, 17, 92], [], [1, 8, 13, 14, 15, 16, 17], [1, 8, 13, 14, 15, 16, 17], [1, 8, 13, 14, 15, 16, 17], [1, 8, 13, 14, 15, 16, 17], [1, 8, 13, 14], [1, 8, 13, 14, 18], [1, 8, 13, 14], [1, 8, 13, 14, 18], [1, 8, 13, 14, 18, 107], [1, 8, 13, 14, 18], [1, 8, 13, 14, 18], [1, 8, 13, 14, 18, 117], [1, 8, 13, 14, 18], [8, 13], [], [8, 9], [1, 8, 13, 14, 18], [8, 13], [], [8, 9]]
theorem c36 : cFunc Try.prog 36 false h36 = some F36 := by kernel_rfl

def F37 : IFunc := ⟨2, 66, [.tmp 4], false,
 .seq (.reg [2, 3] [⟨some 2, none, .box (.t 0)⟩,
    ⟨some 3, none, .box (.t 1)⟩,
    ⟨some 4, none, .mov (.c (.g (.bool false)))⟩]) <|
 .seq (.reg [4] [⟨some 5, none, .faddr 0 (.t 2)⟩,
    ⟨some 6, none, .load false 1 (.t 5)⟩,
    ⟨some 7, none, .faddr 0 (.t 3)⟩,
    ⟨some 8, none, .load false 1 (.t 7)⟩,
    ⟨some 9, none, .bin .eql (.t 6) (.t 8)⟩,
    ⟨some 10, none, .mov (.t 9)⟩,
    ⟨some 11, (some (10, true)), .faddr 1 (.t 2)⟩,
    ⟨some 12, (some (10, true)), .load false 1 (.t 11)⟩,
    ⟨some 13, (some (10, true)), .faddr 1 (.t 3)⟩,
    ⟨some 14, (some (10, true)), .load false 1 (.t 13)⟩,
    ⟨some 15, (some (10, true)), .bin .eql (.t 12) (.t 14)⟩,
    ⟨some 16, none, .pick (.t 10) (.t 15) (.c (.g (.bool false)))⟩,
    ⟨some 17, none, .mov (.t 16)⟩,
    ⟨some 18, (some (17, true)), .faddr 2 (.t 2)⟩,
    ⟨some 19, (some (17, true)), .load false 1 (.t 18)⟩,
    ⟨some 20, (some (17, true)), .faddr 2 (.t 3)⟩,
    ⟨some 21, (some (17, true)), .load false 1 (.t 20)⟩,
    ⟨some 22, (some (17, true)), .bin .eql (.t 19) (.t 21)⟩,
    ⟨some 23, none, .pick (.t 17) (.t 22) (.c (.g (.bool false)))⟩,
    ⟨some 24, none, .mov (.t 23)⟩,
    ⟨some 25, (some (24, true)), .faddr 3 (.t 2)⟩,
    ⟨some 26, (some (24, true)), .load false 1 (.t 25)⟩,
    ⟨some 27, (some (24, true)), .faddr 3 (.t 3)⟩,
    ⟨some 28, (some (24, true)), .load false 1 (.t 27)⟩,
    ⟨some 29, (some (24, true)), .bin .eql (.t 26) (.t 28)⟩,
    ⟨some 30, none, .pick (.t 24) (.t 29) (.c (.g (.bool false)))⟩,
    ⟨some 31, none, .mov (.t 30)⟩,
    ⟨some 32, (some (31, true)), .faddr 4 (.t 2)⟩,
    ⟨some 33, (some (31, true)), .load false 1 (.t 32)⟩,
    ⟨some 34, (some (31, true)), .faddr 4 (.t 3)⟩,
    ⟨some 35, (some (31, true)), .load false 1 (.t 34)⟩,
    ⟨some 36, (some (31, true)), .bin .eql (.t 33) (.t 35)⟩,
    ⟨some 37, none, .pick (.t 31) (.t 36) (.c (.g (.bool false)))⟩,
    ⟨some 38, none, .mov (.t 37)⟩,
    ⟨some 39, (some (38, true)), .faddr 5 (.t 2)⟩,
    ⟨some 40, (some (38, true)), .load false 1 (.t 39)⟩,
    ⟨some 41, (some (38, true)), .faddr 5 (.t 3)⟩,
    ⟨some 42, (some (38, true)), .load false 1 (.t 41)⟩,
    ⟨some 43, (some (38, true)), .bin .eql (.t 40) (.t 42)⟩,
    ⟨some 44, none, .pick (.t 38) (.t 43) (.c (.g (.bool false)))⟩,
    ⟨some 45, none, .mov (.t 44)⟩,
    ⟨some 46, (some (45, true)), .faddr 6 (.t 2)⟩,
    ⟨some 47, (some (45, true)), .load false 1 (.t 46)⟩,
    ⟨some 48, (some (45, true)), .faddr 6 (.t 3)⟩,
    ⟨some 49, (some (45, true)), .load false 1 (.t 48)⟩,
    ⟨some 50, (some (45, true)), .eqs false false [.b] (.t 47) (.t 49)⟩,
    ⟨some 51, none, .pick (.t 45) (.t 50) (.c (.g (.bool false)))⟩,
    ⟨some 52, none, .mov (.t 51)⟩,
    ⟨some 53, (some (52, true)), .faddr 7 (.t 2)⟩,
    ⟨some 54, (some (52, true)), .load false 1 (.t 53)⟩,
    ⟨some 55, (some (52, true)), .faddr 7 (.t 3)⟩,
    ⟨some 56, (some (52, true)), .load false 1 (.t 55)⟩,
    ⟨some 57, (some (52, true)), .call (.c (.g (.fn 22))) [(.t 54), (.t 56)]⟩,
    ⟨some 58, none, .pick (.t 52) (.t 57) (.c (.g (.bool false)))⟩,
    ⟨some 59, none, .mov (.t 58)⟩,
    ⟨some 60, (some (59, true)), .faddr 8 (.t 2)⟩,
    ⟨some 61, (some (59, true)), .load false 1 (.t 60)⟩,
    ⟨some 62, (some (59, true)), .faddr 8 (.t 3)⟩,
    ⟨some 63, (some (59, true)), .load false 1 (.t 62)⟩,
    ⟨some 64, (some (59, true)), .call (.c (.g (.fn 18))) [(.t 61), (.t 63)]⟩,
    ⟨some 65, none, .pick (.t 59) (.t 64) (.c (.g (.bool false)))⟩,
    ⟨some 4, none, .mov (.t 65)⟩]) <|
 .ret⟩
def h37 : List (List Nat) := [[2, 3], [4]]
theorem c37 : cFunc Try.prog 37 false h37 = some F37 := by kernel_rfl

def L38_0 : IC :=
 .seq (.seq (.reg [2, 3, 5, 27] [⟨some 23, none, .mov (.t 5)⟩,
     ⟨some 24, none, .faddr 0 (.t 2)⟩,
     ⟨some 25, none, .load false 1 (.t 24)⟩,
     ⟨some 26, none, .len (.t 25)⟩,
     ⟨some 27, none, .bin .lss (.t 23) (.t 26)⟩]) <|
  .cond [2, 3, 5] (.t 27)
   (.skip)
   (.exit 0)) <|
 .seq (.block [2, 3, 5] 1 <|
  .seq (.drw [2, 3, 5, 73] 0 <|
   .take ⟨some 30, none, .faddr 0 (.t 2)⟩ <|
   .take ⟨some 31, none, .load false 1 (.t 30)⟩ <|
   .take ⟨some 32, none, .mov (.t 5)⟩ <|
   .take ⟨some 33, none, .iaddr 11 (.t 31) (.t 32)⟩ <|
   .take ⟨some 34, none, .faddr 0 (.t 33)⟩ <|
   .take ⟨some 35, none, .load false 1 (.t 34)⟩ <|
   .take ⟨some 36, none, .faddr 0 (.t 3)⟩ <|
   .take ⟨some 37, none, .load false 1 (.t 36)⟩ <|
   .take ⟨some 38, none, .mov (.t 5)⟩ <|
   .take ⟨some 39, none, .iaddr 11 (.t 37) (.t 38)⟩ <|
   .take ⟨some 40, none, .faddr 0 (.t 39)⟩ <|
   .take ⟨some 41, none, .load false 1 (.t 40)⟩ <|
   .take ⟨some 42, none, .bin .neq (.t 35) (.t 41)⟩ <|
   .take ⟨some 43, none, .mov (.t 42)⟩ <|
   .take ⟨some 44, (some (43, false)), .faddr 0 (.t 2)⟩ <|
   .take ⟨some 45, (some (43, false)), .load false 1 (.t 44)⟩ <|
   .take ⟨some 46, (some (43, false)), .mov (.t 5)⟩ <|
   .take ⟨some 47, (some (43, false)), .iaddr 11 (.t 45) (.t 46)⟩ <|
   .take ⟨some 48, (some (43, false)), .faddr 1 (.t 47)⟩ <|
   .take ⟨some 49, (some (43, false)), .load false 1 (.t 48)⟩ <|
   .take ⟨some 50, (some (43, false)), .faddr 0 (.t 3)⟩ <|
   .take ⟨some 51, (some (43, false)), .load false 1 (.t 50)⟩ <|
   .take ⟨some 52, (some (43, false)), .mov (.t 5)⟩ <|
   .take ⟨some 53, (some (43, false)), .iaddr 11 (.t 51) (.t 52)⟩ <|
   .take ⟨some 54, (some (43, false)), .faddr 1 (.t 53)⟩ <|
   .take ⟨some 55, (some (43, false)), .load false 1 (.t 54)⟩ <|
   .take ⟨some 56, (some (43, false)), .bin .neq (.t 49) (.t 55)⟩ <|
   .take ⟨some 57, none, .pick (.t 43) (.c (.g (.bool true))) (.t 56)⟩ <|
   .take ⟨some 58, none, .mov (.t 57)⟩ <|
   .take ⟨some 59, (some (58, false)), .faddr 0 (.t 2)⟩ <|
   .take ⟨some 60, (some (58, false)), .load false 1 (.t 59)⟩ <|
   .take ⟨some 61, (some (58, false)), .mov (.t 5)⟩ <|
   .take ⟨some 62, (some (58, false)), .iaddr 11 (.t 60) (.t 61)⟩ <|
   .take ⟨some 63, (some (58, false)), .faddr 2 (.t 62)⟩ <|
   .take ⟨some 64, (some (58, false)), .load true 9 (.t 63)⟩ <|
   .take ⟨some 65, (some (58, false)), .faddr 0 (.t 3)⟩ <|
   .take ⟨some 66, (some (58, false)), .load false 1 (.t 65)⟩ <|
   .take ⟨some 67, (some (58, false)), .mov (.t 5)⟩ <|
   .take ⟨some 68, (some (58, false)), .iaddr 11 (.t 66) (.t 67)⟩ <|
   .take ⟨some 69, (some (58, false)), .faddr 2 (.t 68)⟩ <|
   .take ⟨some 70, (some (58, false)), .load true 9 (.t 69)⟩ <|
   .one ⟨some 71, (some (58, false)), .call (.c (.g (.fn 37))) [(.t 64), (.t 70)]⟩ <|
   .take ⟨some 72, (some (58, false)), .un .not (.t 71)⟩ <|
   .take ⟨some 73, none, .pick (.t 58) (.c (.g (.bool true))) (.t 72)⟩ <|
   .leaf) <|
  .cond [2, 3, 5] (.t 73)
   (.seq (.reg [4] [⟨some 4, none, .mov (.c (.g (.bool false)))⟩]) <|
    .ret)
   (.skip)) <|
 .reg [2, 3, 5] [⟨some 28, none, .mov (.t 5)⟩,
   ⟨some 29, none, .bin .add (.t 28) (.c (.g (.int .i64 1)))⟩,
   ⟨some 5, none, .mov (.t 29)⟩]
def L38_1 : IC :=
 .seq (.seq (.reg [2, 3, 6, 78] [⟨some 74, none, .mov (.t 6)⟩,
     ⟨some 75, none, .faddr 1 (.t 2)⟩,
     ⟨some 76, none, .load false 1 (.t 75)⟩,
     ⟨some 77, none, .len (.t 76)⟩,
     ⟨some 78, none, .bin .lss (.t 74) (.t 77)⟩]) <|
  .cond [2, 3, 6] (.t 78)
   (.skip)
   (.exit 2)) <|
 .seq (.block [2, 3, 6] 3 <|
  .seq (.drw [2, 3, 6, 91] 0 <|
   .take ⟨some 81, none, .faddr 1 (.t 2)⟩ <|
   .take ⟨some 82, none, .load false 1 (.t 81)⟩ <|
   .take ⟨some 83, none, .mov (.t 6)⟩ <|
   .take ⟨some 84, none, .iaddr 2 (.t 82) (.t 83)⟩ <|
   .take ⟨some 85, none, .load true 2 (.t 84)⟩ <|
   .take ⟨some 86, none, .faddr 1 (.t 3)⟩ <|
   .take ⟨some 87, none, .load false 1 (.t 86)⟩ <|
   .take ⟨some 88, none, .mov (.t 6)⟩ <|
   .take ⟨some 89, none, .iaddr 2 (.t 87) (.t 88)⟩ <|
   .take ⟨some 90, none, .load true 2 (.t 89)⟩ <|
   .take ⟨some 91, none, .eqs true true [.i, .i] (.t 85) (.t 90)⟩ <|
   .leaf) <|
  .cond [2, 3, 6] (.t 91)
   (.seq (.reg [4] [⟨some 4, none, .mov (.c (.g (.bool false)))⟩]) <|
    .ret)
   (.skip)) <|
 .reg [2, 3, 6] [⟨some 79, none, .mov (.t 6)⟩,
   ⟨some 80, none, .bin .add (.t 79) (.c (.g (.int .i64 1)))⟩,
   ⟨some 6, none, .mov (.t 80)⟩]
def F38 : IFunc := ⟨2, 92, [.tmp 4], false,
 .seq (.reg [2, 3] [⟨some 2, none, .box (.t 0)⟩,
    ⟨some 3, none, .box (.t 1)⟩,
    ⟨some 4, none, .mov (.c (.g (.bool false)))⟩]) <|
 .seq (.seq (.reg [2, 3, 22] [⟨some 7, none, .faddr 0 (.t 2)⟩,
     ⟨some 8, none, .load false 1 (.t 7)⟩,
     ⟨some 9, none, .len (.t 8)⟩,
     ⟨some 10, none, .faddr 0 (.t 3)⟩,
     ⟨some 11, none, .load false 1 (.t 10)⟩,
     ⟨some 12, none, .len (.t 11)⟩,
     ⟨some 13, none, .bin .neq (.t 9) (.t 12)⟩,
     ⟨some 14, none, .mov (.t 13)⟩,
     ⟨some 15, (some (14, false)), .faddr 1 (.t 2)⟩,
     ⟨some 16, (some (14, false)), .load false 1 (.t 15)⟩,
     ⟨some 17, (some (14, false)), .len (.t 16)⟩,
     ⟨some 18, (some (14, false)), .faddr 1 (.t 3)⟩,
     ⟨some 19, (some (14, false)), .load false 1 (.t 18)⟩,
     ⟨some 20, (some (14, false)), .len (.t 19)⟩,
     ⟨some 21, (some (14, false)), .bin .neq (.t 17) (.t 20)⟩,
     ⟨some 22, none, .pick (.t 14) (.c (.g (.bool true))) (.t 21)⟩]) <|
  .cond [2, 3] (.t 22)
   (.seq (.reg [4] [⟨some 4, none, .mov (.c (.g (.bool false)))⟩]) <|
    .ret)
   (.skip)) <|
 .seq (.seq (.reg [2, 3, 5] [⟨some 5, none, .mov (.c (.g (.int .i64 0)))⟩]) <|
  .block [2, 3] 0 <|
  .loop [2, 3, 5] [] L38_0) <|
 .seq (.seq (.reg [2, 3, 6] [⟨some 6, none, .mov (.c (.g (.int .i64 0)))⟩]) <|
  .block [] 2 <|
  .loop [2, 3, 6] [] L38_1) <|
 .seq (.reg [4] [⟨some 4, none, .mov (.c (.g (.bool true)))⟩]) <|
 .ret⟩
def h38 : List (List Nat) := [[2, 3], [2, 3, 22], [2, 3], [4], [2, 3, 5], [2, 3], [2, 3, 5], [2, 3, 5, 27], [2, 3, 5], [2, 3, 5], [2, 3, 5, 73], [], [2, 3, 5], [4], [2, 3, 5], [2, 3, 6], [], [2, 3, 6], [2, 3, 6, 78], [2, 3, 6], [2, 3, 6], [2, 3, 6, 91], [], [2, 3, 6], [4], [2, 3, 6], [4]]
theorem c38 : cFunc Try.prog 38 false h38 = some F38 := by kernel_rfl

def L39_0 : IC :=
 .seq (.reg [1, 3, 4, 5, 18, 19, 20, 21] [⟨some 21, none, .bin .lss (.t 20) (.t 19)⟩]) <|
 .seq (.cond [1, 3, 4, 5, 18, 19, 20] (.t 21)
   (.skip)
   (.exit 0)) <|
 .seq (.block [1, 3, 4, 5, 18, 19, 20] 1 <|
  .seq (.reg [1, 3, 4, 5, 7, 18, 19, 20] [⟨some 22, none, .iaddr 2 (.t 18) (.t 20)⟩,
     ⟨some 23, none, .load true 2 (.t 22)⟩,
     ⟨some 7, none, .alloc [.z (.int .i64 0), .z (.int .i64 0)]⟩,
     ⟨none, none, .store 2 (.t 7) (.t 23)⟩]) <|
  .seq (.seq (.reg [1, 3, 4, 5, 7, 9, 18, 19, 20] [⟨some 25, none, .mov (.t 3)⟩,
      ⟨some 26, none, .faddr 0 (.t 7)⟩,
      ⟨some 27, none, .load false 1 (.t 26)⟩,
      ⟨some 28, none, .mget true .i (some (.int .i64 0)) (.t 25) (.t 27)⟩,
      ⟨some 24, none, .mov (.t 28)⟩,
      ⟨some 29, none, .ext 0 (.t 24)⟩,
      ⟨some 30, none, .ext 1 (.t 24)⟩,
      ⟨some 8, none, .mov (.t 29)⟩,
      ⟨some 9, none, .mov (.t 30)⟩]) <|
   .seq (.reg [1, 3, 4, 5, 7, 18, 19, 20, 31] [⟨some 31, none, .mov (.t 9)⟩]) <|
   .cond [1, 3, 4, 5, 7, 18, 19, 20] (.t 31)
    (.seq (.reg [2] [⟨some 2, none, .mov (.c (.g (.bool false)))⟩]) <|
     .ret)
    (.skip)) <|
  .reg [1, 3, 4, 5, 18, 19, 20] [⟨some 32, none, .mov (.t 3)⟩,
    ⟨some 33, none, .faddr 0 (.t 7)⟩,
    ⟨some 34, none, .load false 1 (.t 33)⟩,
    ⟨some 35, none, .faddr 1 (.t 7)⟩,
    ⟨some 36, none, .load false 1 (.t 35)⟩,
    ⟨none, none, .mset .i (.t 32) (.t 34) (.t 36)⟩]) <|
 .reg [1, 3, 4, 5, 18, 19, 20] [⟨some 37, none, .bin .add (.t 20) (.c (.g (.int .i64 1)))⟩,
   ⟨some 20, none, .mov (.t 37)⟩]
def L39_1 : IC :=
 .seq (.reg [1, 3, 4, 5, 39, 40, 41, 42] [⟨some 42, none, .bin .lss (.t 41) (.t 40)⟩]) <|
 .seq (.cond [1, 3, 4, 5, 39, 40, 41] (.t 42)
   (.skip)
   (.exit 2)) <|
 .seq (.block [1, 3, 4, 5, 39, 40, 41] 3 <|
  .seq (.reg [1, 3, 4, 5, 11, 39, 40, 41] [⟨some 43, none, .iaddr 11 (.t 39) (.t 41)⟩,
     ⟨some 44, none, .load true 11 (.t 43)⟩,
     ⟨some 11, none, .alloc [.z (.int .i64 0), .z (.int .i64 0), .z (.int .i64 0), .z (.int .i64 0), .z (.int .i64 0), .z (.int .i64 0), .z (.int .i64 0), .z (.int .i64 0), .z (.bool false), .s 6, .s 8]⟩,
     ⟨none, none, .store 11 (.t 11) (.t 44)⟩]) <|
  .seq (.reg [1, 3, 4, 5, 11, 12, 13, 39, 40, 41] [⟨some 46, none, .mov (.t 3)⟩,
     ⟨some 47, none, .faddr 0 (.t 11)⟩,
     ⟨some 48, none, .load false 1 (.t 47)⟩,
     ⟨some 49, none, .mget true .i (some (.int .i64 0)) (.t 46) (.t 48)⟩,
     ⟨some 45, none, .mov (.t 49)⟩,
     ⟨some 50, none, .ext 0 (.t 45)⟩,
     ⟨some 51, none, .ext 1 (.t 45)⟩,
     ⟨some 12, none, .mov (.t 50)⟩,
     ⟨some 13, none, .mov (.t 51)⟩]) <|
  .seq (.seq (.reg [1, 3, 4, 5, 11, 39, 40, 41, 64] [⟨some 52, none, .mov (.t 4)⟩,
      ⟨some 53, none, .load true 11 (.t 11)⟩,
      ⟨some 54, none, .call (.c (.g (.fn 61))) [(.t 53)]⟩,
      ⟨some 55, none, .mget2 false [.i, .i] (some (.bool false)) (.t 52) (.t 54)⟩,
      ⟨some 56, none, .mov (.t 55)⟩,
      ⟨some 57, (some (56, false)), .mov (.t 13)⟩,
      ⟨some 58, (some (56, false)), .mov (.t 57)⟩,
      ⟨some 59, (some (58, true)), .faddr 1 (.t 11)⟩,
      ⟨some 60, (some (58, true)), .load false 1 (.t 59)⟩,
      ⟨some 61, (some (58, true)), .mov (.t 12)⟩,
      ⟨some 62, (some (58, true)), .bin .leq (.t 60) (.t 61)⟩,
      ⟨some 63, (some (56, false)), .pick (.t 58) (.t 62) (.c (.g (.bool false)))⟩,
      ⟨some 64, none, .pick (.t 56) (.c (.g (.bool true))) (.t 63)⟩]) <|
   .cond [1, 3, 4, 5, 11, 39, 40, 41] (.t 64)
    (.seq (.reg [2] [⟨some 2, none, .mov (.c (.g (.bool false)))⟩]) <|
     .ret)
    (.skip)) <|
  .seq (.reg [1, 3, 4, 5, 11, 39, 40, 41] [⟨some 65, none, .mov (.t 4)⟩,
     ⟨some 66, none, .load true 11 (.t 11)⟩,
     ⟨some 67, none, .call (.c (.g (.fn 61))) [(.t 66)]⟩,
     ⟨none, none, .mset2 [.i, .i] (.t 65) (.t 67) (.c (.g (.bool true)))⟩]) <|
  .seq (.reg [1, 3, 4, 5, 11, 39, 40, 41] [⟨some 68, none, .mov (.t 5)⟩,
     ⟨some 69, none, .faddr 0 (.t 11)⟩,
     ⟨some 70, none, .load false 1 (.t 69)⟩,
     ⟨some 71, none, .mget false .i (some (.int .i64 0)) (.t 68) (.t 70)⟩,
     ⟨some 72, none, .bin .add (.t 71) (.c (.g (.int .i64 1)))⟩,
     ⟨none, none, .mset .i (.t 68) (.t 70) (.t 72)⟩]) <|
  .seq (.reg [1, 3, 4, 5, 39, 40, 41, 77] [⟨some 73, none, .mov (.t 5)⟩,
     ⟨some 74, none, .faddr 0 (.t 11)⟩,
     ⟨some 75, none, .load false 1 (.t 74)⟩,
     ⟨some 76, none, .mget false .i (some (.int .i64 0)) (.t 73) (.t 75)⟩,
     ⟨some 77, none, .bin .gtr (.t 76) (.c (.g (.int .i64 4)))⟩]) <|
  .cond [1, 3, 4, 5, 39, 40, 41] (.t 77)
   (.seq (.reg [2] [⟨some 2, none, .mov (.c (.g (.bool false)))⟩]) <|
    .ret)
   (.skip)) <|
 .reg [1, 3, 4, 5, 39, 40, 41] [⟨some 78, none, .bin .add (.t 41) (.c (.g (.int .i64 1)))⟩,
   ⟨some 41, none, .mov (.t 78)⟩]
def F39 : IFunc := ⟨1, 83, [.tmp 2], false,
 .seq (.reg [1] [⟨some 1, none, .box (.t 0)⟩,
    ⟨some 2, none, .mov (.c (.g (.bool false)))⟩]) <|
 .seq (.reg [1, 3, 4, 5] [⟨some 14, none, .mkmap⟩,
    ⟨some 15, none, .mkmap2⟩,
    ⟨some 16, none, .mkmap⟩,
    ⟨some 3, none, .mov (.t 14)⟩,
    ⟨some 4, none, .mov (.t 15)⟩,
    ⟨some 5, none, .mov (.t 16)⟩]) <|
 .seq (.seq (.reg [1, 3, 4, 5, 18, 19, 20] [⟨some 17, none, .faddr 1 (.t 1)⟩,
     ⟨some 18, none, .load false 1 (.t 17)⟩,
     ⟨some 19, none, .len (.t 18)⟩,
     ⟨some 20, none, .mov (.c (.g (.int .i64 0)))⟩]) <|
  .block [1, 3, 4, 5] 0 <|
  .loop [1, 3, 4, 5, 18, 19, 20] [] L39_0) <|
 .seq (.seq (.reg [1, 3, 4, 5, 39, 40, 41] [⟨some 38, none, .faddr 0 (.t 1)⟩,
     ⟨some 39, none, .load false 1 (.t 38)⟩,
     ⟨some 40, none, .len (.t 39)⟩,
     ⟨some 41, none, .mov (.c (.g (.int .i64 0)))⟩]) <|
  .block [1] 2 <|
  .loop [1, 3, 4, 5, 39, 40, 41] [] L39_1) <|
 .seq (.reg [2] [⟨some 79, none, .load true 2 (.t 1)⟩,
    ⟨some 80, none, .call (.c (.g (.fn 42))) [(.t 79)]⟩,
    ⟨some 81, none, .len (.t 80)⟩,
    ⟨some 82, none, .bin .leq (.t 81) (.c (.g (.int .i64 8)))⟩,
    ⟨some 2, none, .mov (.t 82)⟩]) <|
 .ret⟩
def h39 : List (List Nat) := [[1], [1, 3, 4, 5], [1, 3, 4, 5, 18, 19, 20], [1, 3, 4, 5], [1, 3, 4, 5, 18, 19, 20], [1, 3, 4, 5, 18, 19, 20, 21], [1, 3, 4, 5, 18, 19, 20], [1, 3, 4, 5, 18, 19, 20], [1, 3, 4, 5, 7, 18, 19, 20], [1, 3, 4, 5, 7, 9, 18, 19, 20], [1, 3, 4, 5, 7, 18, 19, 20, 31], [1, 3, 4, 5, 7, 18, 19, 20], [2], [1, 3, 4, 5, 18, 19, 20], [1, 3, 4, 5, 18, 19, 20], [1, 3, 4, 5, 39, 40, 41], [1], [1, 3, 4, 5, 39, 40, 41], [1, 3, 4, 5, 39, 40, 41, 42], [1, 3, 4, 5, 39, 40, 41], [1, 3, 4, 5, 39, 40, 41], [1, 3, 4, 5, 11, 39, 40, 41], [1, 3, 4, 5, 11, 12, 13, 39, 40, 41], [1, 3, 4, 5, 11, 39, 40, 41, 64], [1, 3, 4, 5, 11, 39, 40, 41], [2], [1, 3, 4, 5, 11, 39, 40, 41], [1, 3, 4, 5, 11, 39, 40, 41], [1, 3, 4, 5, 39, 40, 41, 77], [1, 3, 4, 5, 39, 40, 41], [2], [1, 3, 4, 5, 39, 40, 41], [2]]
theorem c39 : cFunc Try.prog 39 false h39 = some F39 := by kernel_rfl

def L40_0 : IC :=
 .seq (.reg [1, 8, 9, 10, 11] [⟨some 11, none, .bin .lss (.t 10) (.t 9)⟩]) <|
 .seq (.cond [1, 8, 9, 10] (.t 11)
   (.skip)
   (.exit 0)) <|
 .seq (.block [1, 8, 9, 10] 1 <|
  .seq (.reg [1, 6, 8, 9, 10] [⟨some 12, none, .iaddr 2 (.t 8) (.t 10)⟩,
     ⟨some 13, none, .load true 2 (.t 12)⟩,
     ⟨some 6, none, .alloc [.z (.int .i64 0), .z (.int .i64 0)]⟩,
     ⟨none, none, .store 2 (.t 6) (.t 13)⟩]) <|
  .seq (.reg [1, 6, 8, 9, 10, 17] [⟨some 14, none, .faddr 0 (.t 6)⟩,
     ⟨some 15, none, .load false 1 (.t 14)⟩,
     ⟨some 16, none, .mov (.t 1)⟩,
     ⟨some 17, none, .bin .eql (.t 15) (.t 16)⟩]) <|
  .cond [1, 8, 9, 10] (.t 17)
   (.seq (.reg [4] [⟨some 18, none, .faddr 1 (.t 6)⟩,
       ⟨some 19, none, .load false 1 (.t 18)⟩,
       ⟨some 4, none, .mov (.t 19)⟩]) <|
    .ret)
   (.skip)) <|
 .reg [1, 8, 9, 10] [⟨some 20, none, .bin .add (.t 10) (.c (.g (.int .i64 1)))⟩,
   ⟨some 10, none, .mov (.t 20)⟩]
def F40 : IFunc := ⟨2, 21, [.tmp 4], false,
 .seq (.reg [1, 2] [⟨some 2, none, .box (.t 0)⟩,
    ⟨some 4, none, .mov (.c (.g (.int .i64 0)))⟩]) <|
 .seq (.seq (.reg [1, 8, 9, 10] [⟨some 7, none, .faddr 1 (.t 2)⟩,
     ⟨some 8, none, .load false 1 (.t 7)⟩,
     ⟨some 9, none, .len (.t 8)⟩,
     ⟨some 10, none, .mov (.c (.g (.int .i64 0)))⟩]) <|
  .block [] 0 <|
  .loop [1, 8, 9, 10] [] L40_0) <|
 .seq (.reg [4] [⟨some 4, none, .mov (.c (.g (.int .i64 (-1))))⟩]) <|
 .ret⟩
def h40 : List (List Nat) := [[1, 2], [1, 8, 9, 10], [], [1, 8, 9, 10], [1, 8, 9, 10, 11], [1, 8, 9, 10], [1, 8, 9, 10], [1, 6, 8, 9, 10], [1, 6, 8, 9, 10, 17], [1, 8, 9, 10], [4], [1, 8, 9, 10], [4]]
theorem c40 : cFunc Try.prog 40 false h40 = some F40 := by kernel_rfl

def L41_0 : IC :=
 .seq (.reg [1, 5, 9, 10, 11, 12] [⟨some 12, none, .bin .lss (.t 11) (.t 10)⟩]) <|
 .seq (.cond [1, 5, 9, 10, 11] (.t 12)
   (.skip)
   (.exit 0)) <|
 .seq (.block [1, 5, 9, 10, 11] 1 <|
  .seq (.reg [1, 5, 7, 9, 10, 11] [⟨some 13, none, .iaddr 11 (.t 9) (.t 11)⟩,
     ⟨some 14, none, .load true 11 (.t 13)⟩,
     ⟨some 7, none, .alloc [.z (.int .i64 0), .z (.int .i64 0), .z (.int .i64 0), .z (.int .i64 0), .z (.int .i64 0), .z (.int .i64 0), .z (.int .i64 0), .z (.int .i64 0), .z (.bool false), .s 6, .s 8]⟩,
     ⟨none, none, .store 11 (.t 7) (.t 14)⟩]) <|
  .seq (.reg [1, 5, 7, 9, 10, 11, 18] [⟨some 15, none, .faddr 0 (.t 7)⟩,
     ⟨some 16, none, .load false 1 (.t 15)⟩,
     ⟨some 17, none, .mov (.t 1)⟩,
     ⟨some 18, none, .bin .eql (.t 16) (.t 17)⟩]) <|
  .cond [1, 5, 9, 10, 11] (.t 18)
   (.reg [1, 5, 9, 10, 11] [⟨some 19, none, .mov (.t 5)⟩,
      ⟨some 20, none, .faddr 1 (.t 7)⟩,
      ⟨some 21, none, .load false 1 (.t 20)⟩,
      ⟨some 22, none, .bslice 1 1 [.int .i64 0] [(0, 1, (.t 21))]⟩,
      ⟨some 23, none, .app 1 8 (.t 19) (.t 22)⟩,
      ⟨some 5, none, .mov (.t 23)⟩])
   (.skip)) <|
 .reg [1, 5, 9, 10, 11] [⟨some 24, none, .bin .add (.t 11) (.c (.g (.int .i64 1)))⟩,
   ⟨some 11, none, .mov (.t 24)⟩]
def F41 : IFunc := ⟨2, 28, [.tmp 4], false,
 .seq (.reg [1, 2] [⟨some 2, none, .box (.t 0)⟩,
    ⟨some 4, none, .nres 1⟩]) <|
 .seq (.reg [1, 2, 5] [⟨some 5, none, .nres 1⟩]) <|
 .seq (.seq (.reg [1, 5, 9, 10, 11] [⟨some 8, none, .faddr 0 (.t 2)⟩,
     ⟨some 9, none, .load false 1 (.t 8)⟩,
     ⟨some 10, none, .len (.t 9)⟩,
     ⟨some 11, none, .mov (.c (.g (.int .i64 0)))⟩]) <|
  .block [5] 0 <|
  .loop [1, 5, 9, 10, 11] [] L41_0) <|
 .seq (.reg [5] [⟨some 25, none, .mov (.t 5)⟩,
    ⟨some 26, none, .call (.c (.g (.fn 71))) [(.t 25)]⟩]) <|
 .seq (.reg [4] [⟨some 27, none, .mov (.t 5)⟩,
    ⟨some 4, none, .mov (.t 27)⟩]) <|
 .ret⟩
def h41 : List (List Nat) := [[1, 2], [1, 2, 5], [1, 5, 9, 10, 11], [5], [1, 5, 9, 10, 11], [1, 5, 9, 10, 11, 12], [1, 5, 9, 10, 11], [1, 5, 9, 10, 11], [1, 5, 7, 9, 10, 11], [1, 5, 7, 9, 10, 11, 18], [1, 5, 9, 10, 11], [1, 5, 9, 10, 11], [1, 5, 9, 10, 11], [5], [4]]
theorem c41 : cFunc Try.prog 41 false h41 = some F41 := by kernel_rfl

def L42_0 : IC :=
 .seq (.reg [1, 3, 10, 11, 12, 13] [⟨some 13, none, .bin .lss (.t 12) (.t 11)⟩]) <|
 .seq (.cond [1, 3, 10, 11, 12] (.t 13)
   (.skip)
   (.exit 0)) <|
 .seq (.block [1, 3, 10, 11, 12] 1 <|
  .seq (.reg [1, 3, 5, 10, 11, 12] [⟨some 14, none, .iaddr 11 (.t 10) (.t 12)⟩,
     ⟨some 15, none, .load true 11 (.t 14)⟩,
     ⟨some 5, none, .alloc [.z (.int .i64 0), .z (.int .i64 0), .z (.int .i64 0), .z (.int .i64 0), .z (.int .i64 0), .z (.int .i64 0), .z (.int .i64 0), .z (.int .i64 0), .z (.bool false), .s 6, .s 8]⟩,
     ⟨none, none, .store 11 (.t 5) (.t 15)⟩]) <|
  .reg [1, 3, 10, 11, 12] [⟨some 16, none, .mov (.t 3)⟩,
    ⟨some 17, none, .faddr 0 (.t 5)⟩,
    ⟨some 18, none, .load false 1 (.t 17)⟩,
    ⟨none, none, .mset .i (.t 16) (.t 18) (.c (.g (.bool true)))⟩]) <|
 .reg [1, 3, 10, 11, 12] [⟨some 19, none, .bin .add (.t 12) (.c (.g (.int .i64 1)))⟩,
   ⟨some 12, none, .mov (.t 19)⟩]
def L42_1 : IC :=
 .seq (.reg [3, 21, 22, 23, 24] [⟨some 24, none, .bin .lss (.t 23) (.t 22)⟩]) <|
 .seq (.cond [3, 21, 22, 23] (.t 24)
   (.skip)
   (.exit 2)) <|
 .seq (.block [3, 21, 22, 23] 3 <|
  .seq (.reg [3, 7, 21, 22, 23] [⟨some 25, none, .iaddr 2 (.t 21) (.t 23)⟩,
     ⟨some 26, none, .load true 2 (.t 25)⟩,
     ⟨some 7, none, .alloc [.z (.int .i64 0), .z (.int .i64 0)]⟩,
     ⟨none, none, .store 2 (.t 7) (.t 26)⟩]) <|
  .reg [3, 21, 22, 23] [⟨some 27, none, .mov (.t 3)⟩,
    ⟨some 28, none, .faddr 0 (.t 7)⟩,
    ⟨some 29, none, .load false 1 (.t 28)⟩,
    ⟨none, none, .mset .i (.t 27) (.t 29) (.c (.g (.bool true)))⟩]) <|
 .reg [3, 21, 22, 23] [⟨some 30, none, .bin .add (.t 23) (.c (.g (.int .i64 1)))⟩,
   ⟨some 23, none, .mov (.t 30)⟩]
def F42 : IFunc := ⟨1, 34, [.tmp 2], false,
 .seq (.reg [1] [⟨some 1, none, .box (.t 0)⟩,
    ⟨some 2, none, .nres 1⟩]) <|
 .seq (.reg [1, 3] [⟨some 8, none, .mkmap⟩,
    ⟨some 3, none, .mov (.t 8)⟩]) <|
 .seq (.seq (.reg [1, 3, 10, 11, 12] [⟨some 9, none, .faddr 0 (.t 1)⟩,
     ⟨some 10, none, .load false 1 (.t 9)⟩,
     ⟨some 11, none, .len (.t 10)⟩,
     ⟨some 12, none, .mov (.c (.g (.int .i64 0)))⟩]) <|
  .block [1, 3] 0 <|
  .loop [1, 3, 10, 11, 12] [] L42_0) <|
 .seq (.seq (.reg [3, 21, 22, 23] [⟨some 20, none, .faddr 1 (.t 1)⟩,
     ⟨some 21, none, .load false 1 (.t 20)⟩,
     ⟨some 22, none, .len (.t 21)⟩,
     ⟨some 23, none, .mov (.c (.g (.int .i64 0)))⟩]) <|
  .block [3] 2 <|
  .loop [3, 21, 22, 23] [] L42_1) <|
 .seq (.reg [2] [⟨some 31, none, .mov (.t 3)⟩,
    ⟨some 32, none, .call (.c (.g (.fn 73))) [(.t 31)]⟩,
    ⟨some 33, none, .call (.c (.g (.fn 72))) [(.t 32)]⟩,
    ⟨some 2, none, .mov (.t 33)⟩]) <|
 .ret⟩
def h42 : List (List Nat) := [[1], [1, 3], [1, 3, 10, 11, 12], [1, 3], [1, 3, 10, 11, 12], [1, 3, 10, 11, 12, 13], [1, 3, 10, 11, 12], [1, 3, 10, 11, 12], [1, 3, 5, 10, 11, 12], [1, 3, 10, 11, 12], [1, 3, 10, 11, 12], [3, 21, 22, 23], [3], [3, 21, 22, 23], [3, 21, 22, 23, 24], [3, 21, 22, 23], [3, 21, 22, 23], [3, 7, 21, 22, 23], [3, 21, 22, 23], [3, 21, 22, 23], [2]]
theorem c42 : cFunc Try.prog 42 false h42 = some F42 := by kernel_rfl

def F43 : IFunc := ⟨1, 11, [.tmp 2], false,
 .seq (.reg [1] [⟨some 1, none, .box (.t 0)⟩,
    ⟨some 2, none, .mov (.c (.g (.bool false)))⟩]) <|
 .seq (.reg [2] [⟨some 3, none, .faddr 2 (.t 1)⟩,
    ⟨some 4, none, .load false 1 (.t 3)⟩,
    ⟨some 5, none, .call (.c (.g (.fn 19))) [(.t 4), (.c (.g (.int .i64 40)))]⟩,
    ⟨some 6, none, .mov (.t 5)⟩,
    ⟨some 7, (some (6, true)), .faddr 3 (.t 1)⟩,
    ⟨some 8, (some (6, true)), .load false 1 (.t 7)⟩,
    ⟨some 9, (some (6, true)), .call (.c (.g (.fn 31))) [(.t 8), (.c (.g (.int .i64 70)))]⟩,
    ⟨some 10, none, .pick (.t 6) (.t 9) (.c (.g (.bool false)))⟩,
    ⟨some 2, none, .mov (.t 10)⟩]) <|
 .ret⟩
def h43 : List (List Nat) := [[1], [2]]
theorem c43 : cFunc Try.prog 43 false h43 = some F43 := by kernel_rfl

def L44_0 : IC :=
 .seq (.seq (.reg [1, 3, 45] [⟨some 41, none, .mov (.t 3)⟩,
     ⟨some 42, none, .faddr 2 (.t 1)⟩,
     ⟨some 43, none, .load false 1 (.t 42)⟩,
     ⟨some 44, none, .len (.t 43)⟩,
     ⟨some 45, none, .bin .lss (.t 41) (.t 44)⟩]) <|
  .cond [1, 3] (.t 45)
   (.skip)
   (.exit 0)) <|
 .seq (.block [1, 3] 1 <|
  .seq (.drw [1, 3, 56] 0 <|
   .take ⟨some 48, none, .faddr 2 (.t 1)⟩ <|
   .take ⟨some 49, none, .load false 1 (.t 48)⟩ <|
   .take ⟨some 50, none, .mov (.t 3)⟩ <|
   .take ⟨some 51, none, .iaddr 6 (.t 49) (.t 50)⟩ <|
   .take ⟨some 52, none, .faddr 3 (.t 51)⟩ <|
   .take ⟨some 53, none, .load false 1 (.t 52)⟩ <|
   .take ⟨some 54, none, .faddr 1 (.t 1)⟩ <|
   .take ⟨some 55, none, .load false 1 (.t 54)⟩ <|
   .take ⟨some 56, none, .bin .gtr (.t 53) (.t 55)⟩ <|
   .leaf) <|
  .cond [1, 3] (.t 56)
   (.seq (.reg [2] [⟨some 2, none, .mov (.c (.g (.bool false)))⟩]) <|
    .ret)
   (.skip)) <|
 .reg [1, 3] [⟨some 46, none, .mov (.t 3)⟩,
   ⟨some 47, none, .bin .add (.t 46) (.c (.g (.int .i64 1)))⟩,
   ⟨some 3, none, .mov (.t 47)⟩]
def L44_1 : IC :=
 .seq (.seq (.reg [1, 4, 5, 6, 65] [⟨some 61, none, .mov (.t 6)⟩,
     ⟨some 62, none, .faddr 3 (.t 1)⟩,
     ⟨some 63, none, .load false 1 (.t 62)⟩,
     ⟨some 64, none, .len (.t 63)⟩,
     ⟨some 65, none, .bin .lss (.t 61) (.t 64)⟩]) <|
  .cond [1, 4, 5, 6] (.t 65)
   (.skip)
   (.exit 2)) <|
 .seq (.block [1, 4, 5, 6] 3 <|
  .seq (.reg [1, 4, 5, 6, 7] [⟨some 68, none, .faddr 3 (.t 1)⟩,
     ⟨some 69, none, .load false 1 (.t 68)⟩,
     ⟨some 70, none, .mov (.t 6)⟩,
     ⟨some 71, none, .iaddr 8 (.t 69) (.t 70)⟩,
     ⟨some 72, none, .load true 8 (.t 71)⟩,
     ⟨some 7, none, .alloc [.z (.int .i64 0), .z (.bool false), .z (.str []), .z (.str []), .z (.int .i64 0), .z (.int .i64 0), .z (.int .i64 0), .z (.int .i64 0)]⟩,
     ⟨none, none, .store 8 (.t 7) (.t 72)⟩]) <|
  .seq (.seq (.reg [1, 4, 6, 7, 96] [⟨some 73, none, .faddr 0 (.t 7)⟩,
      ⟨some 74, none, .load false 1 (.t 73)⟩,
      ⟨some 75, none, .faddr 1 (.t 1)⟩,
      ⟨some 76, none, .load false 1 (.t 75)⟩,
      ⟨some 77, none, .bin .leq (.t 74) (.t 76)⟩,
      ⟨some 78, none, .mov (.t 77)⟩,
      ⟨some 79, (some (78, false)), .faddr 0 (.t 7)⟩,
      ⟨some 80, (some (78, false)), .load false 1 (.t 79)⟩,
      ⟨some 81, (some (78, false)), .mov (.t 5)⟩,
      ⟨some 82, (some (78, false)), .bin .lss (.t 80) (.t 81)⟩,
      ⟨some 83, none, .pick (.t 78) (.c (.g (.bool true))) (.t 82)⟩,
      ⟨some 84, none, .mov (.t 83)⟩,
      ⟨some 85, (some (84, false)), .faddr 0 (.t 7)⟩,
      ⟨some 86, (some (84, false)), .load false 1 (.t 85)⟩,
      ⟨some 87, (some (84, false)), .faddr 0 (.t 1)⟩,
      ⟨some 88, (some (84, false)), .load false 1 (.t 87)⟩,
      ⟨some 89, (some (84, false)), .bin .gtr (.t 86) (.t 88)⟩,
      ⟨some 90, none, .pick (.t 84) (.c (.g (.bool true))) (.t 89)⟩,
      ⟨some 91, none, .mov (.t 90)⟩,
      ⟨some 92, (some (91, false)), .mov (.t 4)⟩,
      ⟨some 93, (some (91, false)), .load true 8 (.t 7)⟩,
      ⟨some 94, (some (91, false)), .call (.c (.g (.fn 75))) [(.t 92), (.t 93)]⟩,
      ⟨some 95, (some (91, false)), .un .not (.t 94)⟩,
      ⟨some 96, none, .pick (.t 91) (.c (.g (.bool true))) (.t 95)⟩]) <|
   .cond [1, 4, 6, 7] (.t 96)
    (.seq (.reg [2] [⟨some 2, none, .mov (.c (.g (.bool false)))⟩]) <|
     .ret)
    (.skip)) <|
  .seq (.drw [1, 4, 6, 7] 0 <|
   .take ⟨some 97, none, .mov (.t 4)⟩ <|
   .take ⟨some 98, none, .faddr 3 (.t 1)⟩ <|
   .take ⟨some 99, none, .load false 1 (.t 98)⟩ <|
   .take ⟨some 100, none, .mov (.t 6)⟩ <|
   .take ⟨some 101, none, .mov (.t 6)⟩ <|
   .take ⟨some 102, none, .bin .add (.t 101) (.c (.g (.int .i64 1)))⟩ <|
   .take ⟨some 103, none, .slc 8 (.t 99) (some (.t 100)) (some (.t 102))⟩ <|
   .take ⟨some 104, none, .faddr 0 (.t 7)⟩ <|
   .take ⟨some 105, none, .load false 1 (.t 104)⟩ <|
   .one ⟨some 106, none, .call (.c (.g (.fn 76))) [(.t 97), (.t 103), (.t 105)]⟩ <|
   .free <|
   .take ⟨some 4, none, .mov (.t 106)⟩ <|
   .leaf) <|
  .seq (.reg [1, 4, 5, 6] [⟨some 107, none, .faddr 0 (.t 7)⟩,
     ⟨some 108, none, .load false 1 (.t 107)⟩,
     ⟨some 5, none, .mov (.t 108)⟩]) <|
  .seq (.reg [1, 4, 5, 6, 111] [⟨some 109, none, .mov (.t 4)⟩,
     ⟨some 110, none, .len (.t 109)⟩,
     ⟨some 111, none, .bin .gtr (.t 110) (.c (.g (.int .i64 30)))⟩]) <|
  .cond [1, 4, 5, 6] (.t 111)
   (.seq (.reg [2] [⟨some 2, none, .mov (.c (.g (.bool false)))⟩]) <|
    .ret)
   (.skip)) <|
 .reg [1, 4, 5, 6] [⟨some 66, none, .mov (.t 6)⟩,
   ⟨some 67, none, .bin .add (.t 66) (.c (.g (.int .i64 1)))⟩,
   ⟨some 6, none, .mov (.t 67)⟩]
def F44 : IFunc := ⟨1, 112, [.tmp 2], false,
 .seq (.reg [1] [⟨some 1, none, .box (.t 0)⟩,
    ⟨some 2, none, .mov (.c (.g (.bool false)))⟩]) <|
 .seq (.seq (.reg [1, 40] [⟨some 8, none, .faddr 1 (.t 1)⟩,
     ⟨some 9, none, .load false 1 (.t 8)⟩,
     ⟨some 10, none, .bin .lss (.t 9) (.c (.g (.int .i64 0)))⟩,
     ⟨some 11, none, .mov (.t 10)⟩,
     ⟨some 12, (some (11, false)), .faddr 1 (.t 1)⟩,
     ⟨some 13, (some (11, false)), .load false 1 (.t 12)⟩,
     ⟨some 14, (some (11, false)), .faddr 0 (.t 1)⟩,
     ⟨some 15, (some (11, false)), .load false 1 (.t 14)⟩,
     ⟨some 16, (some (11, false)), .bin .gtr (.t 13) (.t 15)⟩,
     ⟨some 17, none, .pick (.t 11) (.c (.g (.bool true))) (.t 16)⟩,
     ⟨some 18, none, .mov (.t 17)⟩,
     ⟨some 19, (some (18, false)), .faddr 0 (.t 1)⟩,
     ⟨some 20, (some (18, false)), .load false 1 (.t 19)⟩,
     ⟨some 21, (some (18, false)), .bin .gtr (.t 20) (.c (.g (.int .i64 1099511627774)))⟩,
     ⟨some 22, none, .pick (.t 18) (.c (.g (.bool true))) (.t 21)⟩,
     ⟨some 23, none, .mov (.t 22)⟩,
     ⟨some 24, (some (23, false)), .faddr 2 (.t 1)⟩,
     ⟨some 25, (some (23, false)), .load false 1 (.t 24)⟩,
     ⟨some 26, (some (23, false)), .call (.c (.g (.fn 74))) [(.t 25)]⟩,
     ⟨some 27, (some (23, false)), .un .not (.t 26)⟩,
     ⟨some 28, none, .pick (.t 23) (.c (.g (.bool true))) (.t 27)⟩,
     ⟨some 29, none, .mov (.t 28)⟩,
     ⟨some 30, (some (29, false)), .faddr 2 (.t 1)⟩,
     ⟨some 31, (some (29, false)), .load false 1 (.t 30)⟩,
     ⟨some 32, (some (29, false)), .len (.t 31)⟩,
     ⟨some 33, (some (29, false)), .bin .gtr (.t 32) (.c (.g (.int .i64 30)))⟩,
     ⟨some 34, none, .pick (.t 29) (.c (.g (.bool true))) (.t 33)⟩,
     ⟨some 35, none, .mov (.t 34)⟩,
     ⟨some 36, (some (35, false)), .faddr 3 (.t 1)⟩,
     ⟨some 37, (some (35, false)), .load false 1 (.t 36)⟩,
     ⟨some 38, (some (35, false)), .len (.t 37)⟩,
     ⟨some 39, (some (35, false)), .bin .gtr (.t 38) (.c (.g (.int .i64 60)))⟩,
     ⟨some 40, none, .pick (.t 35) (.c (.g (.bool true))) (.t 39)⟩]) <|
  .cond [1] (.t 40)
   (.seq (.reg [2] [⟨some 2, none, .mov (.c (.g (.bool false)))⟩]) <|
    .ret)
   (.skip)) <|
 .seq (.seq (.reg [1, 3] [⟨some 3, none, .mov (.c (.g (.int .i64 0)))⟩]) <|
  .block [1] 0 <|
  .loop [1, 3] [] L44_0) <|
 .seq (.reg [1, 4] [⟨some 57, none, .faddr 2 (.t 1)⟩,
    ⟨some 58, none, .load false 1 (.t 57)⟩,
    ⟨some 4, none, .mov (.t 58)⟩]) <|
 .seq (.reg [1, 4, 5] [⟨some 59, none, .faddr 1 (.t 1)⟩,
    ⟨some 60, none, .load false 1 (.t 59)⟩,
    ⟨some 5, none, .mov (.t 60)⟩]) <|
 .seq (.seq (.reg [1, 4, 5, 6] [⟨some 6, none, .mov (.c (.g (.int .i64 0)))⟩]) <|
  .block [] 2 <|
  .loop [1, 4, 5, 6] [] L44_1) <|
 .seq (.reg [2] [⟨some 2, none, .mov (.c (.g (.bool true)))⟩]) <|
 .ret⟩
def h44 : List (List Nat) := [[1], [1, 40], [1], [2], [1, 3], [1], [1, 3], [1, 3, 45], [1, 3], [1, 3], [1, 3, 56], [], [1, 3], [2], [1, 3], [1, 4], [1, 4, 5], [1, 4, 5, 6], [], [1, 4, 5, 6], [1, 4, 5, 6, 65], [1, 4, 5, 6], [1, 4, 5, 6], [1, 4, 5, 6, 7], [1, 4, 6, 7, 96], [1, 4, 6, 7], [2], [1, 4, 6, 7], [], [1, 4, 5, 6], [1, 4, 5, 6, 111], [1, 4, 5, 6], [2], [1, 4, 5, 6], [2]]
theorem c44 : cFunc Try.prog 44 false h44 = some F44 := by kernel_rfl

def F45 : IFunc := ⟨0, 2, [.cell 0 true 4], false,
 .seq (.reg [0] [⟨some 0, none, .alloc [.z (.int .i64 0), .z (.int .i64 0), .s 6, .s 8]⟩]) <|
 .seq (.reg [0] [⟨some 1, none, .build [.g (.int .i64 0), .g (.int .i64 0), .g (.nsl), .g (.nsl)] []⟩,
    ⟨none, none, .store 4 (.t 0) (.t 1)⟩]) <|
 .ret⟩
def h45 : List (List Nat) := [[0], [0]]
theorem c45 : cFunc Try.prog 45 false h45 = some F45 := by kernel_rfl

def F46 : IFunc := ⟨1, 4, [.tmp 2], true,
 .seq (.reg [1] [⟨some 1, none, .box (.t 0)⟩,
    ⟨some 2, none, .mov (.c (.g (.nfn)))⟩]) <|
 .seq (.reg [2] [⟨some 3, none, .mkfn 77 [(.t 1)]⟩,
    ⟨some 2, none, .mov (.t 3)⟩]) <|
 .ret⟩
def h46 : List (List Nat) := [[1], [2]]
theorem c46 : cFunc Try.prog 46 true h46 = some F46 := by kernel_rfl

def L47_0 : IC :=
 .seq (.reg [1, 2, 7, 10, 11, 12, 13] [⟨some 13, none, .bin .lss (.t 12) (.t 11)⟩]) <|
 .seq (.cond [1, 2, 7, 10, 11, 12] (.t 13)
   (.skip)
   (.exit 0)) <|
 .seq (.block [1, 2, 7, 10, 11, 12] 1 <|
  .seq (.reg [1, 2, 7, 9, 10, 11, 12] [⟨some 14, none, .iaddr 8 (.t 10) (.t 12)⟩,
     ⟨some 15, none, .load true 8 (.t 14)⟩,
     ⟨some 9, none, .alloc [.z (.int .i64 0), .z (.bool false), .z (.str []), .z (.str []), .z (.int .i64 0), .z (.int .i64 0), .z (.int .i64 0), .z (.int .i64 0)]⟩,
     ⟨none, none, .store 8 (.t 9) (.t 15)⟩]) <|
  .seq (.reg [1, 2, 7, 9, 10, 11, 12, 26] [⟨some 16, none, .faddr 0 (.t 9)⟩,
     ⟨some 17, none, .load false 1 (.t 16)⟩,
     ⟨some 18, none, .mov (.t 2)⟩,
     ⟨some 19, none, .bin .geq (.t 17) (.t 18)⟩,
     ⟨some 20, none, .mov (.t 19)⟩,
     ⟨some 21, (some (20, true)), .faddr 2 (.t 9)⟩,
     ⟨some 22, (some (20, true)), .faddr 0 (.t 21)⟩,
     ⟨some 23, (some (20, true)), .load false 1 (.t 22)⟩,
     ⟨some 24, (some (20, true)), .mov (.t 1)⟩,
     ⟨some 25, (some (20, true)), .call (.c (.g (.fn 80))) [(.t 23), (.t 24)]⟩,
     ⟨some 26, none, .pick (.t 20) (.t 25) (.c (.g (.bool false)))⟩]) <|
  .cond [1, 2, 7, 10, 11, 12] (.t 26)
   (.reg [1, 2, 7, 10, 11, 12] [⟨some 27, none, .mov (.t 7)⟩,
      ⟨some 28, none, .load true 8 (.t 9)⟩,
      ⟨some 29, none, .bslice 8 1 [.int .i64 0, .bool false, .str [], .str [], .int .i64 0, .int .i64 0, .int .i64 0, .int .i64 0] [(0, 8, (.t 28))]⟩,
      ⟨some 30, none, .app 8 80 (.t 27) (.t 29)⟩,
      ⟨some 7, none, .mov (.t 30)⟩])
   (.skip)) <|
 .reg [1, 2, 7, 10, 11, 12] [⟨some 31, none, .bin .add (.t 12) (.c (.g (.int .i64 1)))⟩,
   ⟨some 12, none, .mov (.t 31)⟩]
def F47 : IFunc := ⟨3, 33, [.tmp 6], false,
 .seq (.reg [0, 1, 2] [⟨some 6, none, .nres 8⟩]) <|
 .seq (.reg [0, 1, 2, 7] [⟨some 7, none, .nres 8⟩]) <|
 .seq (.seq (.reg [1, 2, 7, 10, 11, 12] [⟨some 10, none, .mov (.t 0)⟩,
     ⟨some 11, none, .len (.t 10)⟩,
     ⟨some 12, none, .mov (.c (.g (.int .i64 0)))⟩]) <|
  .block [7] 0 <|
  .loop [1, 2, 7, 10, 11, 12] [] L47_0) <|
 .seq (.reg [6] [⟨some 32, none, .mov (.t 7)⟩,
    ⟨some 6, none, .mov (.t 32)⟩]) <|
 .ret⟩
def h47 : List (List Nat) := [[0, 1, 2], [0, 1, 2, 7], [1, 2, 7, 10, 11, 12], [7], [1, 2, 7, 10, 11, 12], [1, 2, 7, 10, 11, 12, 13], [1, 2, 7, 10, 11, 12], [1, 2, 7, 10, 11, 12], [1, 2, 7, 9, 10, 11, 12], [1, 2, 7, 9, 10, 11, 12, 26], [1, 2, 7, 10, 11, 12], [1, 2, 7, 10, 11, 12], [1, 2, 7, 10, 11, 12], [6]]
theorem c47 : cFunc Try.prog 47 false h47 = some F47 := by kernel_rfl

def F48 : IFunc := ⟨2, 18, [.tmp 4], false,
 .seq (.reg [0, 1] [⟨some 4, none, .mov (.c (.g (.bool false)))⟩]) <|
 .seq (.reg [4] [⟨some 5, none, .mov (.t 0)⟩,
    ⟨some 6, none, .lenS (.t 5)⟩,
    ⟨some 7, none, .mov (.t 1)⟩,
    ⟨some 8, none, .lenS (.t 7)⟩,
    ⟨some 9, none, .bin .geq (.t 6) (.t 8)⟩,
    ⟨some 10, none, .mov (.t 9)⟩,
    ⟨some 11, (some (10, true)), .mov (.t 0)⟩,
    ⟨some 12, (some (10, true)), .mov (.t 1)⟩,
    ⟨some 13, (some (10, true)), .lenS (.t 12)⟩,
    ⟨some 14, (some (10, true)), .slcS (.t 11) none (some (.t 13))⟩,
    ⟨some 15, (some (10, true)), .mov (.t 1)⟩,
    ⟨some 16, (some (10, true)), .bin .eql (.t 14) (.t 15)⟩,
    ⟨some 17, none, .pick (.t 10) (.t 16) (.c (.g (.bool false)))⟩,
    ⟨some 4, none, .mov (.t 17)⟩]) <|
 .ret⟩
def h48 : List (List Nat) := [[0, 1], [4]]
theorem c48 : cFunc Try.prog 48 false h48 = some F48 := by kernel_rfl

def L49_0 : IC :=
 .seq (.reg [0, 2, 11, 12, 13, 14] [⟨some 14, none, .bin .lss (.t 13) (.t 12)⟩]) <|
 .seq (.cond [0, 2, 11, 12, 13] (.t 14)
   (.skip)
   (.exit 0)) <|
 .seq (.block [0, 2, 11, 12, 13] 1 <|
  .seq (.reg [0, 2, 8, 11, 12, 13] [⟨some 15, none, .iaddr 8 (.t 11) (.t 13)⟩,
     ⟨some 16, none, .load true 8 (.t 15)⟩,
     ⟨some 8, none, .alloc [.z (.int .i64 0), .z (.bool false), .z (.str []), .z (.str []), .z (.int .i64 0), .z (.int .i64 0), .z (.int .i64 0), .z (.int .i64 0)]⟩,
     ⟨none, none, .store 8 (.t 8) (.t 16)⟩]) <|
  .block [0, 2, 11, 12, 13] 2 <|
  .seq (.reg [0, 2, 8, 11, 12, 13, 21] [⟨some 22, none, .faddr 0 (.t 8)⟩,
     ⟨some 23, none, .load false 1 (.t 22)⟩,
     ⟨some 24, none, .mov (.t 2)⟩,
     ⟨some 25, none, .bin .gtr (.t 23) (.t 24)⟩,
     ⟨some 21, none, .mov (.t 25)⟩]) <|
  .cond [0, 2, 11, 12, 13] (.t 21)
   (.skip)
   (.seq (.reg [0, 2, 8, 11, 12, 13, 26] [⟨some 27, none, .faddr 1 (.t 8)⟩,
       ⟨some 28, none, .load false 1 (.t 27)⟩,
       ⟨some 26, none, .mov (.t 28)⟩]) <|
    .cond [0, 2, 11, 12, 13] (.t 26)
     (.reg [0, 2, 11, 12, 13] [⟨some 29, none, .mov (.t 0)⟩,
        ⟨some 30, none, .faddr 2 (.t 8)⟩,
        ⟨some 31, none, .faddr 0 (.t 30)⟩,
        ⟨some 32, none, .load false 1 (.t 31)⟩,
        ⟨some 33, none, .call (.c (.g (.fn 81))) [(.t 29), (.t 32)]⟩,
        ⟨some 0, none, .mov (.t 33)⟩])
     (.reg [0, 2, 11, 12, 13] [⟨some 17, none, .mov (.t 0)⟩,
        ⟨some 18, none, .faddr 2 (.t 8)⟩,
        ⟨some 19, none, .load true 6 (.t 18)⟩,
        ⟨some 20, none, .call (.c (.g (.fn 82))) [(.t 17), (.t 19)]⟩,
        ⟨some 0, none, .mov (.t 20)⟩]))) <|
 .reg [0, 2, 11, 12, 13] [⟨some 34, none, .bin .add (.t 13) (.c (.g (.int .i64 1)))⟩,
   ⟨some 13, none, .mov (.t 34)⟩]
def F49 : IFunc := ⟨3, 36, [.tmp 6], false,
 .seq (.reg [0, 1, 2] [⟨some 6, none, .nres 6⟩]) <|
 .seq (.reg [0, 1, 2] [⟨some 9, none, .mov (.t 0)⟩,
    ⟨some 10, none, .call (.c (.g (.fn 50))) [(.t 9)]⟩,
    ⟨some 0, none, .mov (.t 10)⟩]) <|
 .seq (.seq (.reg [0, 2, 11, 12, 13] [⟨some 11, none, .mov (.t 1)⟩,
     ⟨some 12, none, .len (.t 11)⟩,
     ⟨some 13, none, .mov (.c (.g (.int .i64 0)))⟩]) <|
  .block [0] 0 <|
  .loop [0, 2, 11, 12, 13] [] L49_0) <|
 .seq (.reg [6] [⟨some 35, none, .mov (.t 0)⟩,
    ⟨some 6, none, .mov (.t 35)⟩]) <|
 .ret⟩
def h49 : List (List Nat) := [[0, 1, 2], [0, 1, 2], [0, 2, 11, 12, 13], [0], [0, 2, 11, 12, 13], [0, 2, 11, 12, 13, 14], [0, 2, 11, 12, 13], [0, 2, 11, 12, 13], [0, 2, 8, 11, 12, 13], [0, 2, 11, 12, 13], [0, 2, 8, 11, 12, 13, 21], [0, 2, 11, 12, 13], [0, 2, 8, 11, 12, 13, 26], [0, 2, 11, 12, 13], [0, 2, 11, 12, 13], [0, 2, 11, 12, 13], [0, 2, 11, 12, 13], [6]]
theorem c49 : cFunc Try.prog 49 false h49 = some F49 := by kernel_rfl

def F50 : IFunc := ⟨1, 8, [.tmp 2], false,
 .seq (.reg [0] [⟨some 2, none, .nres 6⟩]) <|
 .seq (.seq (.reg [0, 4] [⟨some 3, none, .mov (.t 0)⟩,
     ⟨some 4, none, .isnilS false (.t 3)⟩]) <|
  .cond [0] (.t 4)
   (.seq (.reg [2] [⟨some 2, none, .nres 6⟩]) <|
    .ret)
   (.skip)) <|
 .seq (.reg [2] [⟨some 5, none, .mk0 6⟩,
    ⟨some 6, none, .mov (.t 0)⟩,
    ⟨some 7, none, .app 6 64 (.t 5) (.t 6)⟩,
    ⟨some 2, none, .mov (.t 7)⟩]) <|
 .ret⟩
def h50 : List (List Nat) := [[0], [0, 4], [0], [2], [2]]
theorem c50 : cFunc Try.prog 50 false h50 = some F50 := by kernel_rfl

def L51_0 : IC :=
 .seq (.seq (.reg [0, 1, 5, 6, 7, 12] [⟨some 9, none, .mov (.t 7)⟩,
     ⟨some 10, none, .mov (.t 0)⟩,
     ⟨some 11, none, .len (.t 10)⟩,
     ⟨some 12, none, .bin .lss (.t 9) (.t 11)⟩]) <|
  .cond [0, 1, 5, 6, 7] (.t 12)
   (.skip)
   (.exit 0)) <|
 .seq (.block [0, 1, 5, 6, 7] 1 <|
  .seq (.seq (.reg [0, 1, 5, 6, 7, 25] [⟨some 15, none, .mov (.t 6)⟩,
      ⟨some 16, none, .un .not (.t 15)⟩,
      ⟨some 17, none, .mov (.t 16)⟩,
      ⟨some 18, (some (17, true)), .mov (.t 0)⟩,
      ⟨some 19, (some (17, true)), .mov (.t 7)⟩,
      ⟨some 20, (some (17, true)), .iaddr 6 (.t 18) (.t 19)⟩,
      ⟨some 21, (some (17, true)), .faddr 0 (.t 20)⟩,
      ⟨some 22, (some (17, true)), .load false 1 (.t 21)⟩,
      ⟨some 23, (some (17, true)), .mov (.t 1)⟩,
      ⟨some 24, (some (17, true)), .bin .eql (.t 22) (.t 23)⟩,
      ⟨some 25, none, .pick (.t 17) (.t 24) (.c (.g (.bool false)))⟩]) <|
   .cond [0, 1, 5, 6, 7] (.t 25)
    (.seq (.reg [0, 1, 5, 6, 7] [⟨some 6, none, .mov (.c (.g (.bool true)))⟩]) <|
     .exit 1)
    (.skip)) <|
  .reg [0, 1, 5, 6, 7] [⟨some 26, none, .mov (.t 5)⟩,
    ⟨some 27, none, .mov (.t 0)⟩,
    ⟨some 28, none, .mov (.t 7)⟩,
    ⟨some 29, none, .iaddr 6 (.t 27) (.t 28)⟩,
    ⟨some 30, none, .load true 6 (.t 29)⟩,
    ⟨some 31, none, .bslice 6 1 [.str [], .str [], .int .i64 0, .int .i64 0, .int .i64 0, .int .i64 0] [(0, 6, (.t 30))]⟩,
    ⟨some 32, none, .app 6 64 (.t 26) (.t 31)⟩,
    ⟨some 5, none, .mov (.t 32)⟩]) <|
 .reg [0, 1, 5, 6, 7] [⟨some 13, none, .mov (.t 7)⟩,
   ⟨some 14, none, .bin .add (.t 13) (.c (.g (.int .i64 1)))⟩,
   ⟨some 7, none, .mov (.t 14)⟩]
def F51 : IFunc := ⟨2, 34, [.tmp 4], false,
 .seq (.reg [0, 1] [⟨some 4, none, .nres 6⟩]) <|
 .seq (.reg [0, 1, 5] [⟨some 8, none, .mk0 6⟩,
    ⟨some 5, none, .mov (.t 8)⟩]) <|
 .seq (.reg [0, 1, 5, 6] [⟨some 6, none, .mov (.c (.g (.bool false)))⟩]) <|
 .seq (.seq (.reg [0, 1, 5, 6, 7] [⟨some 7, none, .mov (.c (.g (.int .i64 0)))⟩]) <|
  .block [5] 0 <|
  .loop [0, 1, 5, 6, 7] [] L51_0) <|
 .seq (.reg [4] [⟨some 33, none, .mov (.t 5)⟩,
    ⟨some 4, none, .mov (.t 33)⟩]) <|
 .ret⟩
def h51 : List (List Nat) := [[0, 1], [0, 1, 5], [0, 1, 5, 6], [0, 1, 5, 6, 7], [5], [0, 1, 5, 6, 7], [0, 1, 5, 6, 7, 12], [0, 1, 5, 6, 7], [0, 1, 5, 6, 7], [0, 1, 5, 6, 7, 25], [0, 1, 5, 6, 7], [0, 1, 5, 6, 7], [0, 1, 5, 6, 7], [0, 1, 5, 6, 7], [4]]
theorem c51 : cFunc Try.prog 51 false h51 = some F51 := by kernel_rfl

def L52_0 : IC :=
 .seq (.seq (.drw [0, 3, 5, 20] 0 <|
   .take ⟨some 7, none, .mov (.t 5)⟩ <|
   .take ⟨some 8, none, .mov (.t 0)⟩ <|
   .take ⟨some 9, none, .len (.t 8)⟩ <|
   .take ⟨some 10, none, .bin .lss (.t 7) (.t 9)⟩ <|
   .take ⟨some 11, none, .mov (.t 10)⟩ <|
   .take ⟨some 12, (some (11, true)), .mov (.t 0)⟩ <|
   .take ⟨some 13, (some (11, true)), .mov (.t 5)⟩ <|
   .take ⟨some 14, (some (11, true)), .iaddr 6 (.t 12) (.t 13)⟩ <|
   .take ⟨some 15, (some (11, true)), .faddr 0 (.t 14)⟩ <|
   .take ⟨some 16, (some (11, true)), .load false 1 (.t 15)⟩ <|
   .take ⟨some 17, (some (11, true)), .faddr 0 (.t 3)⟩ <|
   .take ⟨some 18, (some (11, true)), .load false 1 (.t 17)⟩ <|
   .take ⟨some 19, (some (11, true)), .bin .lss (.t 16) (.t 18)⟩ <|
   .take ⟨some 20, none, .pick (.t 11) (.t 19) (.c (.g (.bool false)))⟩ <|
   .leaf) <|
  .cond [0, 3, 5] (.t 20)
   (.skip)
   (.exit 0)) <|
 .block [0, 3, 5] 1 <|
 .reg [0, 3, 5] [⟨some 21, none, .mov (.t 5)⟩,
   ⟨some 22, none, .bin .add (.t 21) (.c (.g (.int .i64 1)))⟩,
   ⟨some 5, none, .mov (.t 22)⟩]
def F52 : IFunc := ⟨2, 53, [.tmp 4], false,
 .seq (.reg [0, 3] [⟨some 3, none, .box (.t 1)⟩,
    ⟨some 4, none, .nres 6⟩]) <|
 .seq (.reg [0, 3, 5] [⟨some 5, none, .mov (.c (.g (.int .i64 0)))⟩]) <|
 .seq (.block [0, 3, 5] 0 <|
  .loop [0, 3, 5] [] L52_0) <|
 .seq (.reg [0, 3, 5, 6] [⟨some 23, none, .mk0 6⟩,
    ⟨some 24, none, .mov (.t 0)⟩,
    ⟨some 25, none, .mov (.t 5)⟩,
    ⟨some 26, none, .slc 6 (.t 24) none (some (.t 25))⟩,
    ⟨some 27, none, .app 6 64 (.t 23) (.t 26)⟩,
    ⟨some 6, none, .mov (.t 27)⟩]) <|
 .seq (.reg [0, 3, 5, 6] [⟨some 28, none, .mov (.t 6)⟩,
    ⟨some 29, none, .load true 6 (.t 3)⟩,
    ⟨some 30, none, .bslice 6 1 [.str [], .str [], .int .i64 0, .int .i64 0, .int .i64 0, .int .i64 0] [(0, 6, (.t 29))]⟩,
    ⟨some 31, none, .app 6 64 (.t 28) (.t 30)⟩,
    ⟨some 6, none, .mov (.t 31)⟩]) <|
 .seq (.seq (.drw [0, 5, 6, 45] 0 <|
   .take ⟨some 32, none, .mov (.t 5)⟩ <|
   .take ⟨some 33, none, .mov (.t 0)⟩ <|
   .take ⟨some 34, none, .len (.t 33)⟩ <|
   .take ⟨some 35, none, .bin .lss (.t 32) (.t 34)⟩ <|
   .take ⟨some 36, none, .mov (.t 35)⟩ <|
   .take ⟨some 37, (some (36, true)), .mov (.t 0)⟩ <|
   .take ⟨some 38, (some (36, true)), .mov (.t 5)⟩ <|
   .take ⟨some 39, (some (36, true)), .iaddr 6 (.t 37) (.t 38)⟩ <|
   .take ⟨some 40, (some (36, true)), .faddr 0 (.t 39)⟩ <|
   .take ⟨some 41, (some (36, true)), .load false 1 (.t 40)⟩ <|
   .take ⟨some 42, (some (36, true)), .faddr 0 (.t 3)⟩ <|
   .take ⟨some 43, (some (36, true)), .load false 1 (.t 42)⟩ <|
   .take ⟨some 44, (some (36, true)), .bin .eql (.t 41) (.t 43)⟩ <|
   .take ⟨some 45, none, .pick (.t 36) (.t 44) (.c (.g (.bool false)))⟩ <|
   .leaf) <|
  .cond [0, 5, 6] (.t 45)
   (.reg [0, 5, 6] [⟨some 46, none, .mov (.t 5)⟩,
      ⟨some 47, none, .bin .add (.t 46) (.c (.g (.int .i64 1)))⟩,
      ⟨some 5, none, .mov (.t 47)⟩])
   (.skip)) <|
 .seq (.reg [4] [⟨some 48, none, .mov (.t 6)⟩,
    ⟨some 49, none, .mov (.t 0)⟩,
    ⟨some 50, none, .mov (.t 5)⟩,
    ⟨some 51, none, .slc 6 (.t 49) (some (.t 50)) none⟩,
    ⟨some 52, none, .app 6 64 (.t 48) (.t 51)⟩,
    ⟨some 4, none, .mov (.t 52)⟩]) <|
 .ret⟩
def h52 : List (List Nat) := [[0, 3], [0, 3, 5], [0, 3, 5], [0, 3, 5], [0, 3, 5, 20], [], [0, 3, 5], [0, 3, 5], [0, 3, 5], [0, 3, 5, 6], [0, 3, 5, 6], [0, 5, 6, 45], [], [0, 5, 6], [0, 5, 6], [4]]
theorem c52 : cFunc Try.prog 52 false h52 = some F52 := by kernel_rfl

def L53_0 : IC :=
 .seq (.reg [0, 3, 9, 10, 11, 12] [⟨some 12, none, .bin .lss (.t 11) (.t 10)⟩]) <|
 .seq (.cond [0, 3, 9, 10, 11] (.t 12)
   (.skip)
   (.exit 0)) <|
 .seq (.block [0, 3, 9, 10, 11] 1 <|
  .seq (.reg [0, 3, 5, 9, 10, 11] [⟨some 13, none, .iaddr 4 (.t 9) (.t 11)⟩,
     ⟨some 14, none, .load true 4 (.t 13)⟩,
     ⟨some 5, none, .alloc [.z (.bool false), .z (.str []), .z (.str []), .z (.int .i64 0)]⟩,
     ⟨none, none, .store 4 (.t 5) (.t 14)⟩]) <|
  .seq (.seq (.reg [0, 3, 5, 7, 9, 10, 11] [⟨some 16, none, .mov (.t 3)⟩,
      ⟨some 17, none, .faddr 1 (.t 5)⟩,
      ⟨some 18, none, .load false 1 (.t 17)⟩,
      ⟨some 19, none, .mget true .s none (.t 16) (.t 18)⟩,
      ⟨some 15, none, .mov (.t 19)⟩,
      ⟨some 20, none, .ext 0 (.t 15)⟩,
      ⟨some 21, none, .ext 1 (.t 15)⟩,
      ⟨some 6, none, .alloc []⟩,
      ⟨none, none, .store 0 (.t 6) (.t 20)⟩,
      ⟨some 7, none, .mov (.t 21)⟩]) <|
   .seq (.reg [0, 3, 5, 9, 10, 11, 44] [⟨some 22, none, .mov (.t 7)⟩,
      ⟨some 23, none, .mov (.t 22)⟩,
      ⟨some 24, (some (23, false)), .faddr 1 (.t 5)⟩,
      ⟨some 25, (some (23, false)), .load false 1 (.t 24)⟩,
      ⟨some 26, (some (23, false)), .call (.c (.g (.fn 83))) [(.t 25)]⟩,
      ⟨some 27, (some (23, false)), .un .not (.t 26)⟩,
      ⟨some 28, none, .pick (.t 23) (.c (.g (.bool true))) (.t 27)⟩,
      ⟨some 29, none, .mov (.t 28)⟩,
      ⟨some 30, (some (29, false)), .faddr 2 (.t 5)⟩,
      ⟨some 31, (some (29, false)), .load false 1 (.t 30)⟩,
      ⟨some 32, (some (29, false)), .lenS (.t 31)⟩,
      ⟨some 33, (some (29, false)), .bin .gtr (.t 32) (.c (.g (.int .i64 20)))⟩,
      ⟨some 34, none, .pick (.t 29) (.c (.g (.bool true))) (.t 33)⟩,
      ⟨some 35, none, .mov (.t 34)⟩,
      ⟨some 36, (some (35, false)), .faddr 3 (.t 5)⟩,
      ⟨some 37, (some (35, false)), .load false 1 (.t 36)⟩,
      ⟨some 38, (some (35, false)), .bin .lss (.t 37) (.c (.g (.int .i64 0)))⟩,
      ⟨some 39, none, .pick (.t 35) (.c (.g (.bool true))) (.t 38)⟩,
      ⟨some 40, none, .mov (.t 39)⟩,
      ⟨some 41, (some (40, false)), .faddr 3 (.t 5)⟩,
      ⟨some 42, (some (40, false)), .load false 1 (.t 41)⟩,
      ⟨some 43, (some (40, false)), .bin .gtr (.t 42) (.c (.g (.int .i64 1099511627775)))⟩,
      ⟨some 44, none, .pick (.t 40) (.c (.g (.bool true))) (.t 43)⟩]) <|
   .cond [0, 3, 5, 9, 10, 11] (.t 44)
    (.seq (.reg [2] [⟨some 2, none, .mov (.c (.g (.bool false)))⟩]) <|
     .ret)
    (.skip)) <|
  .reg [0, 3, 9, 10, 11] [⟨some 45, none, .mov (.t 3)⟩,
    ⟨some 46, none, .faddr 1 (.t 5)⟩,
    ⟨some 47, none, .load false 1 (.t 46)⟩,
    ⟨some 48, none, .build [] []⟩,
    ⟨none, none, .mset .s (.t 45) (.t 47) (.t 48)⟩]) <|
 .reg [0, 3, 9, 10, 11] [⟨some 49, none, .bin .add (.t 11) (.c (.g (.int .i64 1)))⟩,
   ⟨some 11, none, .mov (.t 49)⟩]
def F53 : IFunc := ⟨1, 53, [.tmp 2], false,
 .seq (.reg [0] [⟨some 2, none, .mov (.c (.g (.bool false)))⟩]) <|
 .seq (.reg [0, 3] [⟨some 8, none, .mkmap⟩,
    ⟨some 3, none, .mov (.t 8)⟩]) <|
 .seq (.seq (.reg [0, 3, 9, 10, 11] [⟨some 9, none, .mov (.t 0)⟩,
     ⟨some 10, none, .len (.t 9)⟩,
     ⟨some 11, none, .mov (.c (.g (.int .i64 0)))⟩]) <|
  .block [0] 0 <|
  .loop [0, 3, 9, 10, 11] [] L53_0) <|
 .seq (.reg [2] [⟨some 50, none, .mov (.t 0)⟩,
    ⟨some 51, none, .len (.t 50)⟩,
    ⟨some 52, none, .bin .leq (.t 51) (.c (.g (.int .i64 30)))⟩,
    ⟨some 2, none, .mov (.t 52)⟩]) <|
 .ret⟩
def h53 : List (List Nat) := [[0], [0, 3], [0, 3, 9, 10, 11], [0], [0, 3, 9, 10, 11], [0, 3, 9, 10, 11, 12], [0, 3, 9, 10, 11], [0, 3, 9, 10, 11], [0, 3, 5, 9, 10, 11], [0, 3, 5, 7, 9, 10, 11], [0, 3, 5, 9, 10, 11, 44], [0, 3, 5, 9, 10, 11], [2], [0, 3, 9, 10, 11], [0, 3, 9, 10, 11], [2]]
theorem c53 : cFunc Try.prog 53 false h53 = some F53 := by kernel_rfl

def L54_0 : IC :=
 .seq (.reg [0, 2, 8, 9, 15, 16, 17, 18] [⟨some 18, none, .bin .lss (.t 17) (.t 16)⟩]) <|
 .seq (.cond [0, 2, 8, 9, 15, 16, 17] (.t 18)
   (.skip)
   (.exit 0)) <|
 .seq (.block [0, 2, 8, 9, 15, 16, 17] 1 <|
  .seq (.reg [0, 2, 8, 9, 11, 15, 16, 17] [⟨some 19, none, .iaddr 4 (.t 15) (.t 17)⟩,
     ⟨some 20, none, .load true 4 (.t 19)⟩,
     ⟨some 11, none, .alloc [.z (.bool false), .z (.str []), .z (.str []), .z (.int .i64 0)]⟩,
     ⟨none, none, .store 4 (.t 11) (.t 20)⟩]) <|
  .seq (.reg [0, 2, 8, 9, 11, 12, 15, 16, 17] [⟨some 21, none, .mov (.t 2)⟩,
     ⟨some 22, none, .faddr 0 (.t 11)⟩,
     ⟨some 23, none, .load false 1 (.t 22)⟩,
     ⟨some 24, none, .build [.g (.int .i64 0), .g (.bool false), .g (.str []), .g (.str []), .g (.int .i64 0), .g (.int .i64 0), .g (.int .i64 0), .g (.int .i64 0)] [(0, 1, (.t 21)), (1, 1, (.t 23))]⟩,
     ⟨some 12, none, .alloc [.z (.int .i64 0), .z (.bool false), .z (.str []), .z (.str []), .z (.int .i64 0), .z (.int .i64 0), .z (.int .i64 0), .z (.int .i64 0)]⟩,
     ⟨none, none, .store 8 (.t 12) (.t 24)⟩]) <|
  .seq (.seq (.reg [0, 2, 8, 9, 11, 12, 15, 16, 17, 26] [⟨some 25, none, .faddr 0 (.t 11)⟩,
      ⟨some 26, none, .load false 1 (.t 25)⟩]) <|
   .cond [0, 2, 8, 9, 12, 15, 16, 17] (.t 26)
    (.seq (.reg [0, 2, 8, 9, 12, 13, 14, 15, 16, 17] [⟨some 28, none, .mov (.t 0)⟩,
        ⟨some 29, none, .faddr 1 (.t 11)⟩,
        ⟨some 30, none, .load false 1 (.t 29)⟩,
        ⟨some 31, none, .call (.c (.g (.fn 84))) [(.t 28), (.t 30)]⟩,
        ⟨some 27, none, .mov (.t 31)⟩,
        ⟨some 32, none, .ext 0 (.t 27)⟩,
        ⟨some 33, none, .ext 1 (.t 27)⟩,
        ⟨some 13, none, .alloc [.z (.str []), .z (.str []), .z (.int .i64 0), .z (.int .i64 0), .z (.int .i64 0), .z (.int .i64 0)]⟩,
        ⟨none, none, .store 6 (.t 13) (.t 32)⟩,
        ⟨some 14, none, .mov (.t 33)⟩]) <|
     .seq (.seq (.reg [0, 2, 8, 9, 12, 13, 15, 16, 17, 35] [⟨some 34, none, .mov (.t 14)⟩,
         ⟨some 35, none, .un .not (.t 34)⟩]) <|
      .cond [0, 2, 8, 9, 12, 13, 15, 16, 17] (.t 35)
       (.exit 1)
       (.skip)) <|
     .reg [0, 2, 8, 9, 12, 15, 16, 17] [⟨some 36, none, .load true 6 (.t 13)⟩,
       ⟨some 37, none, .faddr 2 (.t 12)⟩,
       ⟨none, none, .store 6 (.t 37) (.t 36)⟩])
    (.reg [0, 2, 8, 9, 12, 15, 16, 17] [⟨some 38, none, .mov (.t 0)⟩,
       ⟨some 39, none, .load true 4 (.t 11)⟩,
       ⟨some 40, none, .mov (.t 2)⟩,
       ⟨some 41, none, .call (.c (.g (.fn 85))) [(.t 38), (.t 39), (.t 40)]⟩,
       ⟨some 42, none, .faddr 2 (.t 12)⟩,
       ⟨none, none, .store 6 (.t 42) (.t 41)⟩])) <|
  .seq (.reg [0, 2, 8, 9, 12, 15, 16, 17] [⟨some 43, none, .mov (.t 0)⟩,
     ⟨some 44, none, .load true 8 (.t 12)⟩,
     ⟨some 45, none, .bslice 8 1 [.int .i64 0, .bool false, .str [], .str [], .int .i64 0, .int .i64 0, .int .i64 0, .int .i64 0] [(0, 8, (.t 44))]⟩,
     ⟨some 46, none, .mov (.t 2)⟩,
     ⟨some 47, none, .call (.c (.g (.fn 49))) [(.t 43), (.t 45), (.t 46)]⟩,
     ⟨some 0, none, .mov (.t 47)⟩]) <|
  .seq (.reg [0, 2, 8, 9, 12, 15, 16, 17] [⟨some 48, none, .mov (.t 9)⟩,
     ⟨some 49, none, .mov (.t 48)⟩,
     ⟨some 50, (some (49, false)), .mov (.t 0)⟩,
     ⟨some 51, (some (49, false)), .len (.t 50)⟩,
     ⟨some 52, (some (49, false)), .bin .gtr (.t 51) (.c (.g (.int .i64 30)))⟩,
     ⟨some 53, none, .pick (.t 49) (.c (.g (.bool true))) (.t 52)⟩,
     ⟨some 9, none, .mov (.t 53)⟩]) <|
  .reg [0, 2, 8, 9, 15, 16, 17] [⟨some 54, none, .mov (.t 8)⟩,
    ⟨some 55, none, .load true 8 (.t 12)⟩,
    ⟨some 56, none, .bslice 8 1 [.int .i64 0, .bool false, .str [], .str [], .int .i64 0, .int .i64 0, .int .i64 0, .int .i64 0] [(0, 8, (.t 55))]⟩,
    ⟨some 57, none, .app 8 80 (.t 54) (.t 56)⟩,
    ⟨some 8, none, .mov (.t 57)⟩]) <|
 .reg [0, 2, 8, 9, 15, 16, 17] [⟨some 58, none, .bin .add (.t 17) (.c (.g (.int .i64 1)))⟩,
   ⟨some 17, none, .mov (.t 58)⟩]
def F54 : IFunc := ⟨3, 61, [.tmp 6, .tmp 7], false,
 .seq (.reg [0, 1, 2] [⟨some 6, none, .nres 8⟩,
    ⟨some 7, none, .mov (.c (.g (.bool false)))⟩]) <|
 .seq (.reg [0, 1, 2, 8] [⟨some 8, none, .nres 8⟩]) <|
 .seq (.reg [0, 1, 2, 8, 9] [⟨some 9, none, .mov (.c (.g (.bool false)))⟩]) <|
 .seq (.seq (.reg [0, 2, 8, 9, 15, 16, 17] [⟨some 15, none, .mov (.t 1)⟩,
     ⟨some 16, none, .len (.t 15)⟩,
     ⟨some 17, none, .mov (.c (.g (.int .i64 0)))⟩]) <|
  .block [8, 9] 0 <|
  .loop [0, 2, 8, 9, 15, 16, 17] [] L54_0) <|
 .seq (.reg [6, 7] [⟨some 59, none, .mov (.t 8)⟩,
    ⟨some 60, none, .mov (.t 9)⟩,
    ⟨some 6, none, .mov (.t 59)⟩,
    ⟨some 7, none, .mov (.t 60)⟩]) <|
 .ret⟩
def h54 : List (List Nat) := [[0, 1, 2], [0, 1, 2, 8], [0, 1, 2, 8, 9], [0, 2, 8, 9, 15, 16, 17], [8, 9], [0, 2, 8, 9, 15, 16, 17], [0, 2, 8, 9, 15, 16, 17, 18], [0, 2, 8, 9, 15, 16, 17], [0, 2, 8, 9, 15, 16, 17], [0, 2, 8, 9, 11, 15, 16, 17], [0, 2, 8, 9, 11, 12, 15, 16, 17], [0, 2, 8, 9, 11, 12, 15, 16, 17, 26], [0, 2, 8, 9, 12, 15, 16, 17], [0, 2, 8, 9, 12, 13, 14, 15, 16, 17], [0, 2, 8, 9, 12, 13, 15, 16, 17, 35], [0, 2, 8, 9, 12, 13, 15, 16, 17], [0, 2, 8, 9, 12, 15, 16, 17], [0, 2, 8, 9, 12, 15, 16, 17], [0, 2, 8, 9, 12, 15, 16, 17], [0, 2, 8, 9, 12, 15, 16, 17], [0, 2, 8, 9, 15, 16, 17], [0, 2, 8, 9, 15, 16, 17], [6, 7]]
theorem c54 : cFunc Try.prog 54 false h54 = some F54 := by kernel_rfl

def L55_0 : IC :=
 .seq (.reg [0, 3, 9, 10, 11, 12] [⟨some 12, none, .bin .lss (.t 11) (.t 10)⟩]) <|
 .seq (.cond [0, 3, 9, 10, 11] (.t 12)
   (.skip)
   (.exit 0)) <|
 .seq (.block [0, 3, 9, 10, 11] 1 <|
  .seq (.reg [0, 3, 5, 9, 10, 11] [⟨some 13, none, .iaddr 1 (.t 9) (.t 11)⟩,
     ⟨some 14, none, .load false 1 (.t 13)⟩,
     ⟨some 5, none, .mov (.t 14)⟩]) <|
  .seq (.reg [0, 3, 9, 10, 11] [⟨some 15, none, .mov (.t 3)⟩,
     ⟨some 16, none, .mov (.t 5)⟩,
     ⟨some 17, none, .len (.t 16)⟩,
     ⟨some 18, none, .bin .add (.t 15) (.t 17)⟩,
     ⟨some 3, none, .mov (.t 18)⟩]) <|
  .seq (.reg [0, 3, 9, 10, 11, 20] [⟨some 19, none, .mov (.t 3)⟩,
     ⟨some 20, none, .bin .lss (.t 19) (.c (.g (.int .i64 0)))⟩]) <|
  .cond [0, 3, 9, 10, 11] (.t 20)
   (.reg [0, 3, 9, 10, 11] [⟨some 21, none, .mkif 9 (.c (.g (.str [108, 101, 110, 32, 111, 117, 116, 32, 111, 102, 32, 114, 97, 110, 103, 101])))⟩,
      ⟨none, none, .row 0 []⟩])
   (.skip)) <|
 .reg [0, 3, 9, 10, 11] [⟨some 22, none, .bin .add (.t 11) (.c (.g (.int .i64 1)))⟩,
   ⟨some 11, none, .mov (.t 22)⟩]
def L55_1 : IC :=
 .seq (.reg [6, 25, 26, 27, 28] [⟨some 28, none, .bin .lss (.t 27) (.t 26)⟩]) <|
 .seq (.cond [6, 25, 26, 27] (.t 28)
   (.skip)
   (.exit 2)) <|
 .seq (.block [6, 25, 26, 27] 3 <|
  .seq (.reg [6, 8, 25, 26, 27] [⟨some 29, none, .iaddr 1 (.t 25) (.t 27)⟩,
     ⟨some 30, none, .load false 1 (.t 29)⟩,
     ⟨some 8, none, .mov (.t 30)⟩]) <|
  .reg [6, 25, 26, 27] [⟨some 31, none, .mov (.t 6)⟩,
    ⟨some 32, none, .mov (.t 8)⟩,
    ⟨some 33, none, .app 8 80 (.t 31) (.t 32)⟩,
    ⟨some 6, none, .mov (.t 33)⟩]) <|
 .reg [6, 25, 26, 27] [⟨some 34, none, .bin .add (.t 27) (.c (.g (.int .i64 1)))⟩,
   ⟨some 27, none, .mov (.t 34)⟩]
def F55 : IFunc := ⟨1, 36, [.tmp 2], false,
 .seq (.reg [0] [⟨some 2, none, .nres 8⟩]) <|
 .seq (.reg [0, 3] [⟨some 3, none, .mov (.c (.g (.int .i64 0)))⟩]) <|
 .seq (.seq (.reg [0, 3, 9, 10, 11] [⟨some 9, none, .mov (.t 0)⟩,
     ⟨some 10, none, .len (.t 9)⟩,
     ⟨some 11, none, .mov (.c (.g (.int .i64 0)))⟩]) <|
  .block [0, 3] 0 <|
  .loop [0, 3, 9, 10, 11] [] L55_0) <|
 .seq (.reg [0, 6] [⟨some 23, none, .mov (.t 3)⟩,
    ⟨some 24, none, .call (.c (.g (.fn 86))) [(.c (.g (.nsl))), (.t 23)]⟩,
    ⟨some 6, none, .mov (.t 24)⟩]) <|
 .seq (.seq (.reg [6, 25, 26, 27] [⟨some 25, none, .mov (.t 0)⟩,
     ⟨some 26, none, .len (.t 25)⟩,
     ⟨some 27, none, .mov (.c (.g (.int .i64 0)))⟩]) <|
  .block [6] 2 <|
  .loop [6, 25, 26, 27] [] L55_1) <|
 .seq (.reg [2] [⟨some 35, none, .mov (.t 6)⟩,
    ⟨some 2, none, .mov (.t 35)⟩]) <|
 .ret⟩
def h55 : List (List Nat) := [[0], [0, 3], [0, 3, 9, 10, 11], [0, 3], [0, 3, 9, 10, 11], [0, 3, 9, 10, 11, 12], [0, 3, 9, 10, 11], [0, 3, 9, 10, 11], [0, 3, 5, 9, 10, 11], [0, 3, 9, 10, 11], [0, 3, 9, 10, 11, 20], [0, 3, 9, 10, 11], [0, 3, 9, 10, 11], [0, 3, 9, 10, 11], [0, 6], [6, 25, 26, 27], [6], [6, 25, 26, 27], [6, 25, 26, 27, 28], [6, 25, 26, 27], [6, 25, 26, 27], [6, 8, 25, 26, 27], [6, 25, 26, 27], [6, 25, 26, 27], [2]]
theorem c55 : cFunc Try.prog 55 false h55 = some F55 := by kernel_rfl

def L56_0 : IC :=
 .seq (.seq (.reg [0, 1, 5, 6, 19] [⟨some 16, none, .mov (.t 6)⟩,
     ⟨some 17, none, .mov (.t 0)⟩,
     ⟨some 18, none, .len (.t 17)⟩,
     ⟨some 19, none, .bin .lss (.t 16) (.t 18)⟩]) <|
  .cond [0, 1, 5, 6] (.t 19)
   (.skip)
   (.exit 0)) <|
 .seq (.block [0, 1, 5, 6] 1 <|
  .seq (.reg [0, 1, 5, 6, 7] [⟨some 22, none, .mov (.t 0)⟩,
     ⟨some 23, none, .mov (.t 6)⟩,
     ⟨some 24, none, .iaddr 8 (.t 22) (.t 23)⟩,
     ⟨some 25, none, .load true 8 (.t 24)⟩,
     ⟨some 7, none, .alloc [.z (.int .i64 0), .z (.bool false), .z (.str []), .z (.str []), .z (.int .i64 0), .z (.int .i64 0), .z (.int .i64 0), .z (.int .i64 0)]⟩,
     ⟨none, none, .store 8 (.t 7) (.t 25)⟩]) <|
  .seq (.reg [0, 1, 5, 6, 7, 29] [⟨some 26, none, .mov (.t 1)⟩,
     ⟨some 27, none, .load true 8 (.t 7)⟩,
     ⟨some 28, none, .call (.t 26) [(.t 27)]⟩,
     ⟨some 29, none, .un .not (.t 28)⟩]) <|
  .cond [0, 1, 5, 6] (.t 29)
   (.seq (.reg [0, 1, 5, 6] [⟨some 30, none, .mov (.t 0)⟩,
       ⟨some 31, none, .mov (.t 5)⟩,
       ⟨some 32, none, .load true 8 (.t 7)⟩,
       ⟨some 33, none, .iaddr 8 (.t 30) (.t 31)⟩,
       ⟨none, none, .store 8 (.t 33) (.t 32)⟩]) <|
    .reg [0, 1, 5, 6] [⟨some 34, none, .mov (.t 5)⟩,
      ⟨some 35, none, .bin .add (.t 34) (.c (.g (.int .i64 1)))⟩,
      ⟨some 5, none, .mov (.t 35)⟩])
   (.skip)) <|
 .reg [0, 1, 5, 6] [⟨some 20, none, .mov (.t 6)⟩,
   ⟨some 21, none, .bin .add (.t 20) (.c (.g (.int .i64 1)))⟩,
   ⟨some 6, none, .mov (.t 21)⟩]
def F56 : IFunc := ⟨2, 42, [.tmp 4], false,
 .seq (.reg [0, 1] [⟨some 4, none, .nres 8⟩]) <|
 .seq (.reg [0, 1, 5] [⟨some 8, none, .mov (.t 0)⟩,
    ⟨some 9, none, .mov (.t 1)⟩,
    ⟨some 10, none, .call (.c (.g (.fn 78))) [(.t 8), (.t 9)]⟩,
    ⟨some 5, none, .mov (.t 10)⟩]) <|
 .seq (.seq (.reg [0, 1, 5, 12] [⟨some 11, none, .mov (.t 5)⟩,
     ⟨some 12, none, .bin .eql (.t 11) (.c (.g (.int .i64 (-1))))⟩]) <|
  .cond [0, 1, 5] (.t 12)
   (.seq (.reg [4] [⟨some 13, none, .mov (.t 0)⟩,
       ⟨some 4, none, .mov (.t 13)⟩]) <|
    .ret)
   (.skip)) <|
 .seq (.seq (.reg [0, 1, 5, 6] [⟨some 14, none, .mov (.t 5)⟩,
     ⟨some 15, none, .bin .add (.t 14) (.c (.g (.int .i64 1)))⟩,
     ⟨some 6, none, .mov (.t 15)⟩]) <|
  .block [0, 5] 0 <|
  .loop [0, 1, 5, 6] [] L56_0) <|
 .seq (.reg [0, 5] [⟨some 36, none, .mov (.t 0)⟩,
    ⟨some 37, none, .mov (.t 5)⟩,
    ⟨some 38, none, .slc 8 (.t 36) (some (.t 37)) none⟩,
    ⟨none, none, .clear [.int .i64 0, .bool false, .str [], .str [], .int .i64 0, .int .i64 0, .int .i64 0, .int .i64 0] (.t 38)⟩]) <|
 .seq (.reg [4] [⟨some 39, none, .mov (.t 0)⟩,
    ⟨some 40, none, .mov (.t 5)⟩,
    ⟨some 41, none, .slc 8 (.t 39) none (some (.t 40))⟩,
    ⟨some 4, none, .mov (.t 41)⟩]) <|
 .ret⟩
def h56 : List (List Nat) := [[0, 1], [0, 1, 5], [0, 1, 5, 12], [0, 1, 5], [4], [0, 1, 5, 6], [0, 5], [0, 1, 5, 6], [0, 1, 5, 6, 19], [0, 1, 5, 6], [0, 1, 5, 6], [0, 1, 5, 6, 7], [0, 1, 5, 6, 7, 29], [0, 1, 5, 6], [0, 1, 5, 6], [0, 1, 5, 6], [0, 1, 5, 6], [0, 5], [4]]
theorem c56 : cFunc Try.prog 56 false h56 = some F56 := by kernel_rfl

def F57 : IFunc := ⟨1, 8, [.tmp 2], true,
 .seq (.reg [0] [⟨some 2, none, .nres 8⟩]) <|
 .seq (.seq (.reg [0, 4] [⟨some 3, none, .mov (.t 0)⟩,
     ⟨some 4, none, .isnilS false (.t 3)⟩]) <|
  .cond [0] (.t 4)
   (.seq (.reg [2] [⟨some 2, none, .nres 8⟩]) <|
    .ret)
   (.skip)) <|
 .seq (.reg [2] [⟨some 5, none, .mk0 8⟩,
    ⟨some 6, none, .mov (.t 0)⟩,
    ⟨some 7, none, .app 8 80 (.t 5) (.t 6)⟩,
    ⟨some 2, none, .mov (.t 7)⟩]) <|
 .ret⟩
def h57 : List (List Nat) := [[0], [0, 4], [0], [2], [2]]
theorem c57 : cFunc Try.prog 57 true h57 = some F57 := by kernel_rfl

def F58 : IFunc := ⟨2, 8, [.tmp 3], false,
 .seq (.reg [1, 2] [⟨some 2, none, .box (.t 0)⟩,
    ⟨some 3, none, .mov (.c (.g (.bool false)))⟩]) <|
 .seq (.reg [3] [⟨some 4, none, .faddr 0 (.t 2)⟩,
    ⟨some 5, none, .load false 1 (.t 4)⟩,
    ⟨some 6, none, .load false 1 (.t 1)⟩,
    ⟨some 7, none, .bin .leq (.t 5) (.t 6)⟩,
    ⟨some 3, none, .mov (.t 7)⟩]) <|
 .ret⟩
def h58 : List (List Nat) := [[1, 2], [3]]
theorem c58 : cFunc Try.prog 58 false h58 = some F58 := by kernel_rfl

def L59_0 : IC :=
 .seq (.reg [0, 1, 7, 8, 9] [⟨some 9, none, .bin .lss (.t 8) (.t 7)⟩]) <|
 .seq (.cond [0, 1, 7, 8] (.t 9)
   (.skip)
   (.exit 0)) <|
 .seq (.block [0, 1, 7, 8] 1 <|
  .seq (.reg [0, 1, 5, 7, 8] [⟨some 10, none, .mov (.t 8)⟩,
     ⟨some 5, none, .mov (.t 10)⟩]) <|
  .seq (.reg [0, 1, 5, 7, 8, 16] [⟨some 11, none, .mov (.t 1)⟩,
     ⟨some 12, none, .mov (.t 0)⟩,
     ⟨some 13, none, .mov (.t 5)⟩,
     ⟨some 14, none, .iaddr 11 (.t 12) (.t 13)⟩,
     ⟨some 15, none, .load true 11 (.t 14)⟩,
     ⟨some 16, none, .call (.t 11) [(.t 15)]⟩]) <|
  .cond [0, 1, 7, 8] (.t 16)
   (.seq (.reg [4] [⟨some 17, none, .mov (.t 5)⟩,
       ⟨some 4, none, .mov (.t 17)⟩]) <|
    .ret)
   (.skip)) <|
 .reg [0, 1, 7, 8] [⟨some 18, none, .bin .add (.t 8) (.c (.g (.int .i64 1)))⟩,
   ⟨some 8, none, .mov (.t 18)⟩]
def F59 : IFunc := ⟨2, 19, [.tmp 4], false,
 .seq (.reg [0, 1] [⟨some 4, none, .mov (.c (.g (.int .i64 0)))⟩]) <|
 .seq (.seq (.reg [0, 1, 7, 8] [⟨some 6, none, .mov (.t 0)⟩,
     ⟨some 7, none, .len (.t 6)⟩,
     ⟨some 8, none, .mov (.c (.g (.int .i64 0)))⟩]) <|
  .block [] 0 <|
  .loop [0, 1, 7, 8] [] L59_0) <|
 .seq (.reg [4] [⟨some 4, none, .mov (.c (.g (.int .i64 (-1))))⟩]) <|
 .ret⟩
def h59 : List (List Nat) := [[0, 1], [0, 1, 7, 8], [], [0, 1, 7, 8], [0, 1, 7, 8, 9], [0, 1, 7, 8], [0, 1, 7, 8], [0, 1, 5, 7, 8], [0, 1, 5, 7, 8, 16], [0, 1, 7, 8], [4], [0, 1, 7, 8], [4]]
theorem c59 : cFunc Try.prog 59 false h59 = some F59 := by kernel_rfl

def F60 : IFunc := ⟨2, 8, [.tmp 3], false,
 .seq (.reg [1, 2] [⟨some 2, none, .box (.t 0)⟩,
    ⟨some 3, none, .mov (.c (.g (.bool false)))⟩]) <|
 .seq (.drw [3] 0 <|
  .take ⟨some 4, none, .load true 11 (.t 2)⟩ <|
  .take ⟨some 6, none, .load true 2 (.t 1)⟩ <|
  .one ⟨some 5, none, .call (.c (.g (.fn 61))) [(.t 4)]⟩ <|
  .take ⟨some 7, none, .eqs false true [.i, .i] (.t 5) (.t 6)⟩ <|
  .free <|
  .take ⟨some 3, none, .mov (.t 7)⟩ <|
  .leaf) <|
 .ret⟩
def h60 : List (List Nat) := [[1, 2], [3], []]
theorem c60 : cFunc Try.prog 60 false h60 = some F60 := by kernel_rfl

def F61 : IFunc := ⟨1, 8, [.cell 2 true 2], false,
 .seq (.reg [1, 2] [⟨some 1, none, .box (.t 0)⟩,
    ⟨some 2, none, .alloc [.z (.int .i64 0), .z (.int .i64 0)]⟩]) <|
 .seq (.reg [2] [⟨some 3, none, .faddr 0 (.t 1)⟩,
    ⟨some 4, none, .load false 1 (.t 3)⟩,
    ⟨some 5, none, .faddr 1 (.t 1)⟩,
    ⟨some 6, none, .load false 1 (.t 5)⟩,
    ⟨some 7, none, .build [.g (.int .i64 0), .g (.int .i64 0)] [(0, 1, (.t 4)), (1, 1, (.t 6))]⟩,
    ⟨none, none, .store 2 (.t 2) (.t 7)⟩]) <|
 .ret⟩
def h61 : List (List Nat) := [[1, 2], [2]]
theorem c61 : cFunc Try.prog 61 false h61 = some F61 := by kernel_rfl

def F62 : IFunc := ⟨2, 9, [.tmp 4], false,
 .seq (.reg [0, 1] [⟨some 4, none, .mov (.c (.g (.bool false)))⟩]) <|
 .seq (.reg [4] [⟨some 5, none, .mov (.t 0)⟩,
    ⟨some 6, none, .mov (.t 1)⟩,
    ⟨some 7, none, .call (.c (.g (.fn 87))) [(.t 5), (.t 6)]⟩,
    ⟨some 8, none, .bin .geq (.t 7) (.c (.g (.int .i64 0)))⟩,
    ⟨some 4, none, .mov (.t 8)⟩]) <|
 .ret⟩
def h62 : List (List Nat) := [[0, 1], [4]]
theorem c62 : cFunc Try.prog 62 false h62 = some F62 := by kernel_rfl

def L63_0 : IC :=
 .seq (.seq (.reg [1, 2, 5, 10] [⟨some 6, none, .mov (.t 5)⟩,
     ⟨some 7, none, .faddr 1 (.t 2)⟩,
     ⟨some 8, none, .load false 1 (.t 7)⟩,
     ⟨some 9, none, .len (.t 8)⟩,
     ⟨some 10, none, .bin .lss (.t 6) (.t 9)⟩]) <|
  .cond [1, 2, 5] (.t 10)
   (.skip)
   (.exit 0)) <|
 .seq (.block [1, 2, 5] 1 <|
  .seq (.reg [1, 2, 5, 20] [⟨some 13, none, .faddr 1 (.t 2)⟩,
     ⟨some 14, none, .load false 1 (.t 13)⟩,
     ⟨some 15, none, .mov (.t 5)⟩,
     ⟨some 16, none, .iaddr 2 (.t 14) (.t 15)⟩,
     ⟨some 17, none, .faddr 0 (.t 16)⟩,
     ⟨some 18, none, .load false 1 (.t 17)⟩,
     ⟨some 19, none, .mov (.t 1)⟩,
     ⟨some 20, none, .bin .eql (.t 18) (.t 19)⟩]) <|
  .cond [1, 2, 5] (.t 20)
   (.seq (.reg [4] [⟨some 21, none, .faddr 1 (.t 2)⟩,
       ⟨some 22, none, .load false 1 (.t 21)⟩,
       ⟨some 23, none, .mov (.t 5)⟩,
       ⟨some 24, none, .iaddr 2 (.t 22) (.t 23)⟩,
       ⟨some 25, none, .faddr 1 (.t 24)⟩,
       ⟨some 26, none, .load false 1 (.t 25)⟩,
       ⟨some 4, none, .mov (.t 26)⟩]) <|
    .ret)
   (.skip)) <|
 .reg [1, 2, 5] [⟨some 11, none, .mov (.t 5)⟩,
   ⟨some 12, none, .bin .add (.t 11) (.c (.g (.int .i64 1)))⟩,
   ⟨some 5, none, .mov (.t 12)⟩]
def F63 : IFunc := ⟨2, 27, [.tmp 4], false,
 .seq (.reg [1, 2] [⟨some 2, none, .box (.t 0)⟩,
    ⟨some 4, none, .mov (.c (.g (.int .i64 0)))⟩]) <|
 .seq (.seq (.reg [1, 2, 5] [⟨some 5, none, .mov (.c (.g (.int .i64 0)))⟩]) <|
  .block [] 0 <|
  .loop [1, 2, 5] [] L63_0) <|
 .seq (.reg [4] [⟨some 4, none, .mov (.c (.g (.int .i64 (-1))))⟩]) <|
 .ret⟩
def h63 : List (List Nat) := [[1, 2], [1, 2, 5], [], [1, 2, 5], [1, 2, 5, 10], [1, 2, 5], [1, 2, 5], [1, 2, 5, 20], [1, 2, 5], [4], [1, 2, 5], [4]]
theorem c63 : cFunc Try.prog 63 false h63 = some F63 := by kernel_rfl

def L64_0 : IC :=
 .seq (.seq (.reg [1, 3, 4, 10] [⟨some 6, none, .mov (.t 4)⟩,
     ⟨some 7, none, .faddr 0 (.t 1)⟩,
     ⟨some 8, none, .load false 1 (.t 7)⟩,
     ⟨some 9, none, .len (.t 8)⟩,
     ⟨some 10, none, .bin .lss (.t 6) (.t 9)⟩]) <|
  .cond [1, 3, 4] (.t 10)
   (.skip)
   (.exit 0)) <|
 .seq (.block [1, 3, 4] 1 <|
  .reg [1, 3, 4] [⟨some 13, none, .mov (.t 3)⟩,
    ⟨some 14, none, .faddr 0 (.t 1)⟩,
    ⟨some 15, none, .load false 1 (.t 14)⟩,
    ⟨some 16, none, .mov (.t 4)⟩,
    ⟨some 17, none, .iaddr 11 (.t 15) (.t 16)⟩,
    ⟨some 18, none, .faddr 0 (.t 17)⟩,
    ⟨some 19, none, .load false 1 (.t 18)⟩,
    ⟨some 20, none, .call (.c (.g (.fn 65))) [(.t 13), (.t 19), (.c (.g (.bool true)))]⟩,
    ⟨some 3, none, .mov (.t 20)⟩]) <|
 .reg [1, 3, 4] [⟨some 11, none, .mov (.t 4)⟩,
   ⟨some 12, none, .bin .add (.t 11) (.c (.g (.int .i64 1)))⟩,
   ⟨some 4, none, .mov (.t 12)⟩]
def L64_1 : IC :=
 .seq (.seq (.reg [1, 3, 5, 25] [⟨some 21, none, .mov (.t 5)⟩,
     ⟨some 22, none, .faddr 1 (.t 1)⟩,
     ⟨some 23, none, .load false 1 (.t 22)⟩,
     ⟨some 24, none, .len (.t 23)⟩,
     ⟨some 25, none, .bin .lss (.t 21) (.t 24)⟩]) <|
  .cond [1, 3, 5] (.t 25)
   (.skip)
   (.exit 2)) <|
 .seq (.block [1, 3, 5] 3 <|
  .reg [1, 3, 5] [⟨some 28, none, .mov (.t 3)⟩,
    ⟨some 29, none, .faddr 1 (.t 1)⟩,
    ⟨some 30, none, .load false 1 (.t 29)⟩,
    ⟨some 31, none, .mov (.t 5)⟩,
    ⟨some 32, none, .iaddr 2 (.t 30) (.t 31)⟩,
    ⟨some 33, none, .faddr 0 (.t 32)⟩,
    ⟨some 34, none, .load false 1 (.t 33)⟩,
    ⟨some 35, none, .call (.c (.g (.fn 65))) [(.t 28), (.t 34), (.c (.g (.bool true)))]⟩,
    ⟨some 3, none, .mov (.t 35)⟩]) <|
 .reg [1, 3, 5] [⟨some 26, none, .mov (.t 5)⟩,
   ⟨some 27, none, .bin .add (.t 26) (.c (.g (.int .i64 1)))⟩,
   ⟨some 5, none, .mov (.t 27)⟩]
def F64 : IFunc := ⟨1, 37, [.tmp 2], false,
 .seq (.reg [1] [⟨some 1, none, .box (.t 0)⟩,
    ⟨some 2, none, .nres 1⟩]) <|
 .seq (.reg [1, 3] [⟨some 3, none, .nres 1⟩]) <|
 .seq (.seq (.reg [1, 3, 4] [⟨some 4, none, .mov (.c (.g (.int .i64 0)))⟩]) <|
  .block [1, 3] 0 <|
  .loop [1, 3, 4] [] L64_0) <|
 .seq (.seq (.reg [1, 3, 5] [⟨some 5, none, .mov (.c (.g (.int .i64 0)))⟩]) <|
  .block [3] 2 <|
  .loop [1, 3, 5] [] L64_1) <|
 .seq (.reg [2] [⟨some 36, none, .mov (.t 3)⟩,
    ⟨some 2, none, .mov (.t 36)⟩]) <|
 .ret⟩
def h64 : List (List Nat) := [[1], [1, 3], [1, 3, 4], [1, 3], [1, 3, 4], [1, 3, 4, 10], [1, 3, 4], [1, 3, 4], [1, 3, 4], [1, 3, 4], [1, 3, 5], [3], [1, 3, 5], [1, 3, 5, 25], [1, 3, 5], [1, 3, 5], [1, 3, 5], [1, 3, 5], [2]]
theorem c64 : cFunc Try.prog 64 false h64 = some F64 := by kernel_rfl

def L65_0 : IC :=
 .seq (.seq (.reg [0, 1, 2, 7, 20] [⟨some 9, none, .mov (.t 7)⟩,
     ⟨some 10, none, .mov (.t 0)⟩,
     ⟨some 11, none, .len (.t 10)⟩,
     ⟨some 12, none, .bin .lss (.t 9) (.t 11)⟩,
     ⟨some 13, none, .mov (.t 12)⟩,
     ⟨some 14, (some (13, true)), .mov (.t 0)⟩,
     ⟨some 15, (some (13, true)), .mov (.t 7)⟩,
     ⟨some 16, (some (13, true)), .iaddr 1 (.t 14) (.t 15)⟩,
     ⟨some 17, (some (13, true)), .load false 1 (.t 16)⟩,
     ⟨some 18, (some (13, true)), .mov (.t 1)⟩,
     ⟨some 19, (some (13, true)), .bin .lss (.t 17) (.t 18)⟩,
     ⟨some 20, none, .pick (.t 13) (.t 19) (.c (.g (.bool false)))⟩]) <|
  .cond [0, 1, 2, 7] (.t 20)
   (.skip)
   (.exit 0)) <|
 .block [0, 1, 2, 7] 1 <|
 .reg [0, 1, 2, 7] [⟨some 21, none, .mov (.t 7)⟩,
   ⟨some 22, none, .bin .add (.t 21) (.c (.g (.int .i64 1)))⟩,
   ⟨some 7, none, .mov (.t 22)⟩]
def F65 : IFunc := ⟨3, 53, [.tmp 6], false,
 .seq (.reg [0, 1, 2] [⟨some 6, none, .nres 1⟩]) <|
 .seq (.reg [0, 1, 2, 7] [⟨some 7, none, .mov (.c (.g (.int .i64 0)))⟩]) <|
 .seq (.block [0, 1, 2, 7] 0 <|
  .loop [0, 1, 2, 7] [] L65_0) <|
 .seq (.seq (.reg [0, 1, 7, 37] [⟨some 23, none, .mov (.t 2)⟩,
     ⟨some 24, none, .mov (.t 23)⟩,
     ⟨some 25, (some (24, true)), .mov (.t 7)⟩,
     ⟨some 26, (some (24, true)), .mov (.t 0)⟩,
     ⟨some 27, (some (24, true)), .len (.t 26)⟩,
     ⟨some 28, (some (24, true)), .bin .lss (.t 25) (.t 27)⟩,
     ⟨some 29, none, .pick (.t 24) (.t 28) (.c (.g (.bool false)))⟩,
     ⟨some 30, none, .mov (.t 29)⟩,
     ⟨some 31, (some (30, true)), .mov (.t 0)⟩,
     ⟨some 32, (some (30, true)), .mov (.t 7)⟩,
     ⟨some 33, (some (30, true)), .iaddr 1 (.t 31) (.t 32)⟩,
     ⟨some 34, (some (30, true)), .load false 1 (.t 33)⟩,
     ⟨some 35, (some (30, true)), .mov (.t 1)⟩,
     ⟨some 36, (some (30, true)), .bin .eql (.t 34) (.t 35)⟩,
     ⟨some 37, none, .pick (.t 30) (.t 36) (.c (.g (.bool false)))⟩]) <|
  .cond [0, 1, 7] (.t 37)
   (.seq (.reg [6] [⟨some 38, none, .mov (.t 0)⟩,
       ⟨some 6, none, .mov (.t 38)⟩]) <|
    .ret)
   (.skip)) <|
 .seq (.reg [0, 1, 7, 8] [⟨some 39, none, .mk0 1⟩,
    ⟨some 40, none, .mov (.t 0)⟩,
    ⟨some 41, none, .mov (.t 7)⟩,
    ⟨some 42, none, .slc 1 (.t 40) none (some (.t 41))⟩,
    ⟨some 43, none, .app 1 8 (.t 39) (.t 42)⟩,
    ⟨some 8, none, .mov (.t 43)⟩]) <|
 .seq (.reg [0, 7, 8] [⟨some 44, none, .mov (.t 8)⟩,
    ⟨some 45, none, .mov (.t 1)⟩,
    ⟨some 46, none, .bslice 1 1 [.int .i64 0] [(0, 1, (.t 45))]⟩,
    ⟨some 47, none, .app 1 8 (.t 44) (.t 46)⟩,
    ⟨some 8, none, .mov (.t 47)⟩]) <|
 .seq (.reg [6] [⟨some 48, none, .mov (.t 8)⟩,
    ⟨some 49, none, .mov (.t 0)⟩,
    ⟨some 50, none, .mov (.t 7)⟩,
    ⟨some 51, none, .slc 1 (.t 49) (some (.t 50)) none⟩,
    ⟨some 52, none, .app 1 8 (.t 48) (.t 51)⟩,
    ⟨some 6, none, .mov (.t 52)⟩]) <|
 .ret⟩
def h65 : List (List Nat) := [[0, 1, 2], [0, 1, 2, 7], [0, 1, 2, 7], [0, 1, 2, 7], [0, 1, 2, 7, 20], [0, 1, 2, 7], [0, 1, 2, 7], [0, 1, 2, 7], [0, 1, 7, 37], [0, 1, 7], [6], [0, 1, 7, 8], [0, 7, 8], [6]]
theorem c65 : cFunc Try.prog 65 false h65 = some F65 := by kernel_rfl

def L66_0 : IC :=
 .seq (.reg [0, 3, 9, 10, 11, 12] [⟨some 12, none, .bin .lss (.t 11) (.t 10)⟩]) <|
 .seq (.cond [0, 3, 9, 10, 11] (.t 12)
   (.skip)
   (.exit 0)) <|
 .seq (.block [0, 3, 9, 10, 11] 1 <|
  .seq (.reg [0, 3, 5, 9, 10, 11] [⟨some 13, none, .iaddr 1 (.t 9) (.t 11)⟩,
     ⟨some 14, none, .load false 1 (.t 13)⟩,
     ⟨some 5, none, .mov (.t 14)⟩]) <|
  .seq (.reg [0, 3, 9, 10, 11] [⟨some 15, none, .mov (.t 3)⟩,
     ⟨some 16, none, .mov (.t 5)⟩,
     ⟨some 17, none, .len (.t 16)⟩,
     ⟨some 18, none, .bin .add (.t 15) (.t 17)⟩,
     ⟨some 3, none, .mov (.t 18)⟩]) <|
  .seq (.reg [0, 3, 9, 10, 11, 20] [⟨some 19, none, .mov (.t 3)⟩,
     ⟨some 20, none, .bin .lss (.t 19) (.c (.g (.int .i64 0)))⟩]) <|
  .cond [0, 3, 9, 10, 11] (.t 20)
   (.reg [0, 3, 9, 10, 11] [⟨some 21, none, .mkif 9 (.c (.g (.str [108, 101, 110, 32, 111, 117, 116, 32, 111, 102, 32, 114, 97, 110, 103, 101])))⟩,
      ⟨none, none, .row 0 []⟩])
   (.skip)) <|
 .reg [0, 3, 9, 10, 11] [⟨some 22, none, .bin .add (.t 11) (.c (.g (.int .i64 1)))⟩,
   ⟨some 11, none, .mov (.t 22)⟩]
def L66_1 : IC :=
 .seq (.reg [6, 25, 26, 27, 28] [⟨some 28, none, .bin .lss (.t 27) (.t 26)⟩]) <|
 .seq (.cond [6, 25, 26, 27] (.t 28)
   (.skip)
   (.exit 2)) <|
 .seq (.block [6, 25, 26, 27] 3 <|
  .seq (.reg [6, 8, 25, 26, 27] [⟨some 29, none, .iaddr 1 (.t 25) (.t 27)⟩,
     ⟨some 30, none, .load false 1 (.t 29)⟩,
     ⟨some 8, none, .mov (.t 30)⟩]) <|
  .reg [6, 25, 26, 27] [⟨some 31, none, .mov (.t 6)⟩,
    ⟨some 32, none, .mov (.t 8)⟩,
    ⟨some 33, none, .app 11 120 (.t 31) (.t 32)⟩,
    ⟨some 6, none, .mov (.t 33)⟩]) <|
 .reg [6, 25, 26, 27] [⟨some 34, none, .bin .add (.t 27) (.c (.g (.int .i64 1)))⟩,
   ⟨some 27, none, .mov (.t 34)⟩]
def F66 : IFunc := ⟨1, 36, [.tmp 2], true,
 .seq (.reg [0] [⟨some 2, none, .nres 11⟩]) <|
 .seq (.reg [0, 3] [⟨some 3, none, .mov (.c (.g (.int .i64 0)))⟩]) <|
 .seq (.seq (.reg [0, 3, 9, 10, 11] [⟨some 9, none, .mov (.t 0)⟩,
     ⟨some 10, none, .len (.t 9)⟩,
     ⟨some 11, none, .mov (.c (.g (.int .i64 0)))⟩]) <|
  .block [0, 3] 0 <|
  .loop [0, 3, 9, 10, 11] [] L66_0) <|
 .seq (.reg [0, 6] [⟨some 23, none, .mov (.t 3)⟩,
    ⟨some 24, none, .call (.c (.g (.fn 88))) [(.c (.g (.nsl))), (.t 23)]⟩,
    ⟨some 6, none, .mov (.t 24)⟩]) <|
 .seq (.seq (.reg [6, 25, 26, 27] [⟨some 25, none, .mov (.t 0)⟩,
     ⟨some 26, none, .len (.t 25)⟩,
     ⟨some 27, none, .mov (.c (.g (.int .i64 0)))⟩]) <|
  .block [6] 2 <|
  .loop [6, 25, 26, 27] [] L66_1) <|
 .seq (.reg [2] [⟨some 35, none, .mov (.t 6)⟩,
    ⟨some 2, none, .mov (.t 35)⟩]) <|
 .ret⟩
def h66 : List (List Nat) := [[0], [0, 3], [0, 3, 9, 10, 11], [0, 3], [0, 3, 9, 10, 11], [0, 3, 9, 10, 11, 12], [0, 3, 9, 10, 11], [0, 3, 9, 10, 11], [0, 3, 5, 9, 10, 11], [0, 3, 9, 10, 11], [0, 3, 9, 10, 11, 20], [0, 3, 9, 10, 11], [0, 3, 9, 10, 11], [0, 3, 9, 10, 11], [0, 6], [6, 25, 26, 27], [6], [6, 25, 26, 27], [6, 25, 26, 27, 28], [6, 25, 26, 27], [6, 25, 26, 27], [6, 8, 25, 26, 27], [6, 25, 26, 27], [6, 25, 26, 27], [2]]
theorem c66 : cFunc Try.prog 66 true h66 = some F66 := by kernel_rfl

def F67 : IFunc := ⟨3, 13, [.tmp 4], false,
 .seq (.reg [1, 2, 3] [⟨some 3, none, .box (.t 0)⟩,
    ⟨some 4, none, .mov (.c (.g (.bool false)))⟩]) <|
 .seq (.drw [4] 0 <|
  .take ⟨some 5, none, .load true 11 (.t 3)⟩ <|
  .take ⟨some 7, none, .load false 1 (.t 1)⟩ <|
  .take ⟨some 8, none, .load false 1 (.t 2)⟩ <|
  .take ⟨some 9, none, .iaddr 1 (.t 8) (.c (.g (.int .i64 0)))⟩ <|
  .take ⟨some 10, none, .load false 1 (.t 9)⟩ <|
  .take ⟨some 11, none, .build [.g (.int .i64 0), .g (.int .i64 0)] [(0, 1, (.t 7)), (1, 1, (.t 10))]⟩ <|
  .one ⟨some 6, none, .call (.c (.g (.fn 61))) [(.t 5)]⟩ <|
  .take ⟨some 12, none, .eqs false true [.i, .i] (.t 6) (.t 11)⟩ <|
  .free <|
  .take ⟨some 4, none, .mov (.t 12)⟩ <|
  .leaf) <|
 .ret⟩
def h67 : List (List Nat) := [[1, 2, 3], [4], []]
theorem c67 : cFunc Try.prog 67 false h67 = some F67 := by kernel_rfl

def F68 : IFunc := ⟨3, 33, [.tmp 6], false,
 .seq (.reg [0, 1, 2] [⟨some 6, none, .nres 11⟩]) <|
 .seq (.reg [0, 1, 2] [⟨some 8, none, .mov (.t 0)⟩,
    ⟨some 9, none, .mov (.t 1)⟩,
    ⟨some 10, none, .mov (.t 2)⟩,
    ⟨some 11, none, .mov (.t 0)⟩,
    ⟨some 12, none, .len (.t 11)⟩,
    ⟨some 13, none, .slc3 11 (.t 8) (some (.t 9)) (some (.t 10)) (some (.t 12))⟩]) <|
 .seq (.seq (.reg [0, 1, 2, 16] [⟨some 14, none, .mov (.t 1)⟩,
     ⟨some 15, none, .mov (.t 2)⟩,
     ⟨some 16, none, .bin .eql (.t 14) (.t 15)⟩]) <|
  .cond [0, 1, 2] (.t 16)
   (.seq (.reg [6] [⟨some 17, none, .mov (.t 0)⟩,
       ⟨some 6, none, .mov (.t 17)⟩]) <|
    .ret)
   (.skip)) <|
 .seq (.reg [0, 1, 2, 7] [⟨some 18, none, .mov (.t 0)⟩,
    ⟨some 19, none, .len (.t 18)⟩,
    ⟨some 7, none, .mov (.t 19)⟩]) <|
 .seq (.drw [0, 7] 0 <|
  .free <|
  .take ⟨some 20, none, .mov (.t 0)⟩ <|
  .take ⟨some 21, none, .mov (.t 1)⟩ <|
  .take ⟨some 22, none, .slc 11 (.t 20) none (some (.t 21))⟩ <|
  .take ⟨some 23, none, .mov (.t 0)⟩ <|
  .take ⟨some 24, none, .mov (.t 2)⟩ <|
  .take ⟨some 25, none, .slc 11 (.t 23) (some (.t 24)) none⟩ <|
  .one ⟨some 26, none, .app 11 120 (.t 22) (.t 25)⟩ <|
  .take ⟨some 0, none, .mov (.t 26)⟩ <|
  .leaf) <|
 .seq (.reg [0] [⟨some 27, none, .mov (.t 0)⟩,
    ⟨some 28, none, .mov (.t 0)⟩,
    ⟨some 29, none, .len (.t 28)⟩,
    ⟨some 30, none, .mov (.t 7)⟩,
    ⟨some 31, none, .slc 11 (.t 27) (some (.t 29)) (some (.t 30))⟩,
    ⟨none, none, .clear [.int .i64 0, .int .i64 0, .int .i64 0, .int .i64 0, .int .i64 0, .int .i64 0, .int .i64 0, .int .i64 0, .bool false, .nsl, .nsl] (.t 31)⟩]) <|
 .seq (.reg [6] [⟨some 32, none, .mov (.t 0)⟩,
    ⟨some 6, none, .mov (.t 32)⟩]) <|
 .ret⟩
def h68 : List (List Nat) := [[0, 1, 2], [0, 1, 2], [0, 1, 2, 16], [0, 1, 2], [6], [0, 1, 2, 7], [0, 7], [], [0], [6]]
theorem c68 : cFunc Try.prog 68 false h68 = some F68 := by kernel_rfl

def F69 : IFunc := ⟨3, 34, [.tmp 6], false,
 .seq (.reg [0, 2, 4] [⟨some 4, none, .box (.t 1)⟩,
    ⟨some 6, none, .nres 2⟩]) <|
 .seq (.reg [0, 2, 4, 7] [⟨some 8, none, .mov (.t 0)⟩,
    ⟨some 9, none, .mkfn 90 [(.t 4)]⟩,
    ⟨some 10, none, .call (.c (.g (.fn 89))) [(.t 8), (.t 9)]⟩,
    ⟨some 7, none, .mov (.t 10)⟩]) <|
 .seq (.seq (.reg [0, 2, 4, 7, 12] [⟨some 11, none, .mov (.t 7)⟩,
     ⟨some 12, none, .bin .lss (.t 11) (.c (.g (.int .i64 0)))⟩]) <|
  .cond [0, 2, 7] (.t 12)
   (.seq (.reg [6] [⟨some 13, none, .mov (.t 0)⟩,
       ⟨some 14, none, .load false 1 (.t 4)⟩,
       ⟨some 15, none, .mov (.t 2)⟩,
       ⟨some 16, none, .build [.g (.int .i64 0), .g (.int .i64 0)] [(0, 1, (.t 14)), (1, 1, (.t 15))]⟩,
       ⟨some 17, none, .bslice 2 1 [.int .i64 0, .int .i64 0] [(0, 2, (.t 16))]⟩,
       ⟨some 18, none, .bslice 1 2 [.nsl] [(0, 1, (.t 13)), (1, 1, (.t 17))]⟩,
       ⟨some 19, none, .call (.c (.g (.fn 91))) [(.t 18)]⟩,
       ⟨some 6, none, .mov (.t 19)⟩]) <|
    .ret)
   (.skip)) <|
 .seq (.reg [0, 2, 7] [⟨some 20, none, .mov (.t 0)⟩,
    ⟨some 21, none, .call (.c (.g (.fn 92))) [(.t 20)]⟩,
    ⟨some 0, none, .mov (.t 21)⟩]) <|
 .seq (.reg [0] [⟨some 22, none, .mov (.t 0)⟩,
    ⟨some 23, none, .mov (.t 7)⟩,
    ⟨some 24, none, .mov (.t 0)⟩,
    ⟨some 25, none, .mov (.t 7)⟩,
    ⟨some 26, none, .iaddr 2 (.t 24) (.t 25)⟩,
    ⟨some 27, none, .faddr 1 (.t 26)⟩,
    ⟨some 28, none, .load false 1 (.t 27)⟩,
    ⟨some 29, none, .mov (.t 2)⟩,
    ⟨some 30, none, .mx (.t 28) [(.t 29)]⟩,
    ⟨some 31, none, .iaddr 2 (.t 22) (.t 23)⟩,
    ⟨some 32, none, .faddr 1 (.t 31)⟩,
    ⟨none, none, .store 1 (.t 32) (.t 30)⟩]) <|
 .seq (.reg [6] [⟨some 33, none, .mov (.t 0)⟩,
    ⟨some 6, none, .mov (.t 33)⟩]) <|
 .ret⟩
def h69 : List (List Nat) := [[0, 2, 4], [0, 2, 4, 7], [0, 2, 4, 7, 12], [0, 2, 7], [6], [0, 2, 7], [0], [6]]
theorem c69 : cFunc Try.prog 69 false h69 = some F69 := by kernel_rfl

def L70_0 : IC :=
 .seq (.seq (.reg [1, 2, 5, 6, 11] [⟨some 7, none, .mov (.t 6)⟩,
     ⟨some 8, none, .faddr 0 (.t 2)⟩,
     ⟨some 9, none, .load false 1 (.t 8)⟩,
     ⟨some 10, none, .len (.t 9)⟩,
     ⟨some 11, none, .bin .lss (.t 7) (.t 10)⟩]) <|
  .cond [1, 2, 5, 6] (.t 11)
   (.skip)
   (.exit 0)) <|
 .seq (.block [1, 2, 5, 6] 1 <|
  .seq (.reg [1, 2, 5, 6, 21] [⟨some 14, none, .faddr 0 (.t 2)⟩,
     ⟨some 15, none, .load false 1 (.t 14)⟩,
     ⟨some 16, none, .mov (.t 6)⟩,
     ⟨some 17, none, .iaddr 11 (.t 15) (.t 16)⟩,
     ⟨some 18, none, .faddr 0 (.t 17)⟩,
     ⟨some 19, none, .load false 1 (.t 18)⟩,
     ⟨some 20, none, .mov (.t 1)⟩,
     ⟨some 21, none, .bin .eql (.t 19) (.t 20)⟩]) <|
  .cond [1, 2, 5, 6] (.t 21)
   (.reg [1, 2, 5, 6] [⟨some 22, none, .mov (.t 5)⟩,
      ⟨some 23, none, .faddr 0 (.t 2)⟩,
      ⟨some 24, none, .load false 1 (.t 23)⟩,
      ⟨some 25, none, .mov (.t 6)⟩,
      ⟨some 26, none, .iaddr 11 (.t 24) (.t 25)⟩,
      ⟨some 27, none, .faddr 1 (.t 26)⟩,
      ⟨some 28, none, .load false 1 (.t 27)⟩,
      ⟨some 29, none, .call (.c (.g (.fn 65))) [(.t 22), (.t 28), (.c (.g (.bool false)))]⟩,
      ⟨some 5, none, .mov (.t 29)⟩])
   (.skip)) <|
 .reg [1, 2, 5, 6] [⟨some 12, none, .mov (.t 6)⟩,
   ⟨some 13, none, .bin .add (.t 12) (.c (.g (.int .i64 1)))⟩,
   ⟨some 6, none, .mov (.t 13)⟩]
def F70 : IFunc := ⟨2, 31, [.tmp 4], false,
 .seq (.reg [1, 2] [⟨some 2, none, .box (.t 0)⟩,
    ⟨some 4, none, .nres 1⟩]) <|
 .seq (.reg [1, 2, 5] [⟨some 5, none, .nres 1⟩]) <|
 .seq (.seq (.reg [1, 2, 5, 6] [⟨some 6, none, .mov (.c (.g (.int .i64 0)))⟩]) <|
  .block [5] 0 <|
  .loop [1, 2, 5, 6] [] L70_0) <|
 .seq (.reg [4] [⟨some 30, none, .mov (.t 5)⟩,
    ⟨some 4, none, .mov (.t 30)⟩]) <|
 .ret⟩
def h70 : List (List Nat) := [[1, 2], [1, 2, 5], [1, 2, 5, 6], [5], [1, 2, 5, 6], [1, 2, 5, 6, 11], [1, 2, 5, 6], [1, 2, 5, 6], [1, 2, 5, 6, 21], [1, 2, 5, 6], [1, 2, 5, 6], [1, 2, 5, 6], [4]]
theorem c70 : cFunc Try.prog 70 false h70 = some F70 := by kernel_rfl

def F73 : IFunc := ⟨1, 4, [.tmp 2], true,
 .seq (.reg [1] [⟨some 1, none, .box (.t 0)⟩,
    ⟨some 2, none, .mov (.c (.g (.nfn)))⟩]) <|
 .seq (.reg [2] [⟨some 3, none, .mkfn 96 [(.t 1)]⟩,
    ⟨some 2, none, .mov (.t 3)⟩]) <|
 .ret⟩
def h73 : List (List Nat) := [[1], [2]]
theorem c73 : cFunc Try.prog 73 true h73 = some F73 := by kernel_rfl

def L74_0 : IC :=
 .seq (.seq (.reg [0, 3, 7] [⟨some 4, none, .mov (.t 3)⟩,
     ⟨some 5, none, .mov (.t 0)⟩,
     ⟨some 6, none, .len (.t 5)⟩,
     ⟨some 7, none, .bin .lss (.t 4) (.t 6)⟩]) <|
  .cond [0, 3] (.t 7)
   (.skip)
   (.exit 0)) <|
 .seq (.block [0, 3] 1 <|
  .seq (.drw [0, 3, 33] 0 <|
   .take ⟨some 10, none, .mov (.t 0)⟩ <|
   .take ⟨some 11, none, .mov (.t 3)⟩ <|
   .take ⟨some 12, none, .iaddr 6 (.t 10) (.t 11)⟩ <|
   .take ⟨some 13, none, .load true 6 (.t 12)⟩ <|
   .one ⟨some 14, none, .call (.c (.g (.fn 97))) [(.t 13)]⟩ <|
   .take ⟨some 15, none, .un .not (.t 14)⟩ <|
   .take ⟨some 16, none, .mov (.t 15)⟩ <|
   .take ⟨some 17, (some (16, false)), .mov (.t 3)⟩ <|
   .take ⟨some 18, (some (16, false)), .bin .gtr (.t 17) (.c (.g (.int .i64 0)))⟩ <|
   .take ⟨some 19, (some (16, false)), .mov (.t 18)⟩ <|
   .take ⟨some 20, (some (19, true)), .mov (.t 0)⟩ <|
   .take ⟨some 21, (some (19, true)), .mov (.t 3)⟩ <|
   .take ⟨some 22, (some (19, true)), .bin .sub (.t 21) (.c (.g (.int .i64 1)))⟩ <|
   .take ⟨some 23, (some (19, true)), .iaddr 6 (.t 20) (.t 22)⟩ <|
   .take ⟨some 24, (some (19, true)), .faddr 0 (.t 23)⟩ <|
   .take ⟨some 26, (some (19, true)), .mov (.t 0)⟩ <|
   .take ⟨some 27, (some (19, true)), .mov (.t 3)⟩ <|
   .take ⟨some 28, (some (19, true)), .iaddr 6 (.t 26) (.t 27)⟩ <|
   .take ⟨some 29, (some (19, true)), .faddr 0 (.t 28)⟩ <|
   .alt ⟨some 25, (some (19, true)), .load false 1 (.t 24)⟩
   (.one ⟨some 30, (some (19, true)), .load false 1 (.t 29)⟩ <|
    .take ⟨some 31, (some (19, true)), .bin .geq (.t 25) (.t 30)⟩ <|
    .take ⟨some 32, (some (16, false)), .pick (.t 19) (.t 31) (.c (.g (.bool false)))⟩ <|
    .take ⟨some 33, none, .pick (.t 16) (.c (.g (.bool true))) (.t 32)⟩ <|
    .leaf)
   (.one ⟨some 30, (some (19, true)), .load false 1 (.t 29)⟩ <|
    .one ⟨some 25, (some (19, true)), .load false 1 (.t 24)⟩ <|
    .take ⟨some 31, (some (19, true)), .bin .geq (.t 25) (.t 30)⟩ <|
    .take ⟨some 32, (some (16, false)), .pick (.t 19) (.t 31) (.c (.g (.bool false)))⟩ <|
    .take ⟨some 33, none, .pick (.t 16) (.c (.g (.bool true))) (.t 32)⟩ <|
    .leaf)) <|
  .cond [0, 3] (.t 33)
   (.seq (.reg [2] [⟨some 2, none, .mov (.c (.g (.bool false)))⟩]) <|
    .ret)
   (.skip)) <|
 .reg [0, 3] [⟨some 8, none, .mov (.t 3)⟩,
   ⟨some 9, none, .bin .add (.t 8) (.c (.g (.int .i64 1)))⟩,
   ⟨some 3, none, .mov (.t 9)⟩]
def F74 : IFunc := ⟨1, 34, [.tmp 2], false,
 .seq (.reg [0] [⟨some 2, none, .mov (.c (.g (.bool false)))⟩]) <|
 .seq (.seq (.reg [0, 3] [⟨some 3, none, .mov (.c (.g (.int .i64 0)))⟩]) <|
  .block [] 0 <|
  .loop [0, 3] [] L74_0) <|
 .seq (.reg [2] [⟨some 2, none, .mov (.c (.g (.bool true)))⟩]) <|
 .ret⟩
def h74 : List (List Nat) := [[0], [0, 3], [], [0, 3], [0, 3, 7], [0, 3], [0, 3], [0, 3, 33], [], [0, 3], [2], [0, 3], [2]]
theorem c74 : cFunc Try.prog 74 false h74 = some F74 := by kernel_rfl

def F75 : IFunc := ⟨2, 65, [.tmp 4], false,
 .seq (.reg [0, 3] [⟨some 3, none, .box (.t 1)⟩,
    ⟨some 4, none, .mov (.c (.g (.bool false)))⟩]) <|
 .seq (.reg [3, 5, 6] [⟨some 8, none, .mov (.t 0)⟩,
    ⟨some 9, none, .faddr 2 (.t 3)⟩,
    ⟨some 10, none, .faddr 0 (.t 9)⟩,
    ⟨some 11, none, .load false 1 (.t 10)⟩,
    ⟨some 12, none, .call (.c (.g (.fn 98))) [(.t 8), (.t 11)]⟩,
    ⟨some 7, none, .mov (.t 12)⟩,
    ⟨some 13, none, .ext 0 (.t 7)⟩,
    ⟨some 14, none, .ext 1 (.t 7)⟩,
    ⟨some 5, none, .alloc [.z (.str []), .z (.str []), .z (.int .i64 0), .z (.int .i64 0), .z (.int .i64 0), .z (.int .i64 0)]⟩,
    ⟨none, none, .store 6 (.t 5) (.t 13)⟩,
    ⟨some 6, none, .mov (.t 14)⟩]) <|
 .seq (.seq (.reg [3, 5, 6, 16] [⟨some 15, none, .faddr 1 (.t 3)⟩,
     ⟨some 16, none, .load false 1 (.t 15)⟩]) <|
  .cond [3, 5, 6] (.t 16)
   (.seq (.reg [4] [⟨some 17, none, .mov (.t 6)⟩,
       ⟨some 18, none, .mov (.t 17)⟩,
       ⟨some 19, (some (18, true)), .load true 6 (.t 5)⟩,
       ⟨some 20, (some (18, true)), .faddr 2 (.t 3)⟩,
       ⟨some 21, (some (18, true)), .load true 6 (.t 20)⟩,
       ⟨some 22, (some (18, true)), .eqs false true [.s, .s, .i, .i, .i, .i] (.t 19) (.t 21)⟩,
       ⟨some 23, none, .pick (.t 18) (.t 22) (.c (.g (.bool false)))⟩,
       ⟨some 4, none, .mov (.t 23)⟩]) <|
    .ret)
   (.skip)) <|
 .seq (.seq (.reg [3, 5, 6, 35] [⟨some 24, none, .faddr 2 (.t 3)⟩,
     ⟨some 25, none, .load true 6 (.t 24)⟩,
     ⟨some 26, none, .call (.c (.g (.fn 97))) [(.t 25)]⟩,
     ⟨some 27, none, .un .not (.t 26)⟩,
     ⟨some 28, none, .mov (.t 27)⟩,
     ⟨some 29, (some (28, false)), .faddr 2 (.t 3)⟩,
     ⟨some 30, (some (28, false)), .faddr 3 (.t 29)⟩,
     ⟨some 31, (some (28, false)), .load false 1 (.t 30)⟩,
     ⟨some 32, (some (28, false)), .faddr 0 (.t 3)⟩,
     ⟨some 33, (some (28, false)), .load false 1 (.t 32)⟩,
     ⟨some 34, (some (28, false)), .bin .neq (.t 31) (.t 33)⟩,
     ⟨some 35, none, .pick (.t 28) (.c (.g (.bool true))) (.t 34)⟩]) <|
  .cond [3, 5, 6] (.t 35)
   (.seq (.reg [4] [⟨some 4, none, .mov (.c (.g (.bool false)))⟩]) <|
    .ret)
   (.skip)) <|
 .seq (.seq (.reg [3, 5, 37] [⟨some 36, none, .mov (.t 6)⟩,
     ⟨some 37, none, .un .not (.t 36)⟩]) <|
  .cond [3, 5] (.t 37)
   (.seq (.reg [4] [⟨some 38, none, .faddr 2 (.t 3)⟩,
       ⟨some 39, none, .faddr 2 (.t 38)⟩,
       ⟨some 40, none, .load false 1 (.t 39)⟩,
       ⟨some 41, none, .faddr 0 (.t 3)⟩,
       ⟨some 42, none, .load false 1 (.t 41)⟩,
       ⟨some 43, none, .bin .eql (.t 40) (.t 42)⟩,
       ⟨some 44, none, .mov (.t 43)⟩,
       ⟨some 45, (some (44, true)), .faddr 2 (.t 3)⟩,
       ⟨some 46, (some (44, true)), .faddr 4 (.t 45)⟩,
       ⟨some 47, (some (44, true)), .load false 1 (.t 46)⟩,
       ⟨some 48, (some (44, true)), .bin .eql (.t 47) (.c (.g (.int .i64 1)))⟩,
       ⟨some 49, none, .pick (.t 44) (.t 48) (.c (.g (.bool false)))⟩,
       ⟨some 4, none, .mov (.t 49)⟩]) <|
    .ret)
   (.skip)) <|
 .seq (.reg [4] [⟨some 50, none, .faddr 2 (.t 3)⟩,
    ⟨some 51, none, .faddr 2 (.t 50)⟩,
    ⟨some 52, none, .load false 1 (.t 51)⟩,
    ⟨some 53, none, .faddr 2 (.t 5)⟩,
    ⟨some 54, none, .load false 1 (.t 53)⟩,
    ⟨some 55, none, .bin .eql (.t 52) (.t 54)⟩,
    ⟨some 56, none, .mov (.t 55)⟩,
    ⟨some 57, (some (56, true)), .faddr 2 (.t 3)⟩,
    ⟨some 58, (some (56, true)), .faddr 4 (.t 57)⟩,
    ⟨some 59, (some (56, true)), .load false 1 (.t 58)⟩,
    ⟨some 60, (some (56, true)), .bin .sub (.t 59) (.c (.g (.int .i64 1)))⟩,
    ⟨some 61, (some (56, true)), .faddr 4 (.t 5)⟩,
    ⟨some 62, (some (56, true)), .load false 1 (.t 61)⟩,
    ⟨some 63, (some (56, true)), .bin .eql (.t 60) (.t 62)⟩,
    ⟨some 64, none, .pick (.t 56) (.t 63) (.c (.g (.bool false)))⟩,
    ⟨some 4, none, .mov (.t 64)⟩]) <|
 .ret⟩
def h75 : List (List Nat) := [[0, 3], [3, 5, 6], [3, 5, 6, 16], [3, 5, 6], [4], [3, 5, 6, 35], [3, 5, 6], [4], [3, 5, 37], [3, 5], [4], [4]]
theorem c75 : cFunc Try.prog 75 false h75 = some F75 := by kernel_rfl

def L76_0 : IC :=
 .seq (.seq (.reg [0, 1, 2, 7, 11] [⟨some 8, none, .mov (.t 7)⟩,
     ⟨some 9, none, .mov (.t 1)⟩,
     ⟨some 10, none, .len (.t 9)⟩,
     ⟨some 11, none, .bin .lss (.t 8) (.t 10)⟩]) <|
  .cond [0, 1, 2, 7] (.t 11)
   (.skip)
   (.exit 0)) <|
 .seq (.block [0, 1, 2, 7] 1 <|
  .seq (.seq (.reg [0, 1, 2, 7, 20] [⟨some 14, none, .mov (.t 1)⟩,
      ⟨some 15, none, .mov (.t 7)⟩,
      ⟨some 16, none, .iaddr 8 (.t 14) (.t 15)⟩,
      ⟨some 17, none, .faddr 0 (.t 16)⟩,
      ⟨some 18, none, .load false 1 (.t 17)⟩,
      ⟨some 19, none, .mov (.t 2)⟩,
      ⟨some 20, none, .bin .gtr (.t 18) (.t 19)⟩]) <|
   .cond [0, 1, 2, 7] (.t 20)
    (.exit 1)
    (.skip)) <|
  .seq (.reg [0, 1, 2, 7, 25] [⟨some 21, none, .mov (.t 1)⟩,
     ⟨some 22, none, .mov (.t 7)⟩,
     ⟨some 23, none, .iaddr 8 (.t 21) (.t 22)⟩,
     ⟨some 24, none, .faddr 1 (.t 23)⟩,
     ⟨some 25, none, .load false 1 (.t 24)⟩]) <|
  .cond [0, 1, 2, 7] (.t 25)
   (.reg [0, 1, 2, 7] [⟨some 26, none, .mov (.t 0)⟩,
      ⟨some 27, none, .mov (.t 1)⟩,
      ⟨some 28, none, .mov (.t 7)⟩,
      ⟨some 29, none, .iaddr 8 (.t 27) (.t 28)⟩,
      ⟨some 30, none, .faddr 2 (.t 29)⟩,
      ⟨some 31, none, .faddr 0 (.t 30)⟩,
      ⟨some 32, none, .load false 1 (.t 31)⟩,
      ⟨some 33, none, .call (.c (.g (.fn 51))) [(.t 26), (.t 32)]⟩,
      ⟨some 0, none, .mov (.t 33)⟩])
   (.reg [0, 1, 2, 7] [⟨some 34, none, .mov (.t 0)⟩,
      ⟨some 35, none, .mov (.t 1)⟩,
      ⟨some 36, none, .mov (.t 7)⟩,
      ⟨some 37, none, .iaddr 8 (.t 35) (.t 36)⟩,
      ⟨some 38, none, .faddr 2 (.t 37)⟩,
      ⟨some 39, none, .load true 6 (.t 38)⟩,
      ⟨some 40, none, .call (.c (.g (.fn 52))) [(.t 34), (.t 39)]⟩,
      ⟨some 0, none, .mov (.t 40)⟩])) <|
 .reg [0, 1, 2, 7] [⟨some 12, none, .mov (.t 7)⟩,
   ⟨some 13, none, .bin .add (.t 12) (.c (.g (.int .i64 1)))⟩,
   ⟨some 7, none, .mov (.t 13)⟩]
def F76 : IFunc := ⟨3, 42, [.tmp 6], false,
 .seq (.reg [0, 1, 2] [⟨some 6, none, .nres 6⟩]) <|
 .seq (.seq (.reg [0, 1, 2, 7] [⟨some 7, none, .mov (.c (.g (.int .i64 0)))⟩]) <|
  .block [0] 0 <|
  .loop [0, 1, 2, 7] [] L76_0) <|
 .seq (.reg [6] [⟨some 41, none, .mov (.t 0)⟩,
    ⟨some 6, none, .mov (.t 41)⟩]) <|
 .ret⟩
def h76 : List (List Nat) := [[0, 1, 2], [0, 1, 2, 7], [0], [0, 1, 2, 7], [0, 1, 2, 7, 11], [0, 1, 2, 7], [0, 1, 2, 7], [0, 1, 2, 7, 20], [0, 1, 2, 7], [0, 1, 2, 7, 25], [0, 1, 2, 7], [0, 1, 2, 7], [0, 1, 2, 7], [0, 1, 2, 7], [6]]
theorem c76 : cFunc Try.prog 76 false h76 = some F76 := by kernel_rfl

def L77_0 : IC :=
 .seq (.seq (.reg [0, 1, 6] [⟨some 4, none, .load false 1 (.t 1)⟩,
     ⟨some 5, none, .len (.t 4)⟩,
     ⟨some 6, none, .bin .gtr (.t 5) (.c (.g (.int .i64 0)))⟩]) <|
  .cond [0, 1] (.t 6)
   (.skip)
   (.exit 0)) <|
 .block [0, 1] 1 <|
 .seq (.reg [0, 1, 3] [⟨some 7, none, .load false 1 (.t 1)⟩,
    ⟨some 8, none, .mkfn 79 [(.t 1)]⟩,
    ⟨some 9, none, .call (.c (.g (.fn 78))) [(.t 7), (.t 8)]⟩,
    ⟨some 3, none, .mov (.t 9)⟩]) <|
 .seq (.seq (.reg [0, 1, 3, 11] [⟨some 10, none, .mov (.t 3)⟩,
     ⟨some 11, none, .bin .lss (.t 10) (.c (.g (.int .i64 0)))⟩]) <|
  .cond [0, 1, 3] (.t 11)
   (.reg [0, 1, 3] [⟨some 12, none, .load false 1 (.t 1)⟩,
      ⟨some 13, none, .len (.t 12)⟩,
      ⟨some 3, none, .mov (.t 13)⟩])
   (.skip)) <|
 .seq (.seq (.regy [0, 1, 3, 19] [⟨some 14, none, .mov (.t 0)⟩,
     ⟨some 15, none, .load false 1 (.t 1)⟩,
     ⟨some 16, none, .mov (.t 3)⟩,
     ⟨some 17, none, .slc 8 (.t 15) none (some (.t 16))⟩,
     ⟨some 18, none, .ycall (.t 14) [(.t 17)]⟩,
     ⟨some 19, none, .un .not (.t 18)⟩]) <|
  .cond [0, 1, 3] (.t 19)
   (.ret)
   (.skip)) <|
 .reg [0, 1] [⟨some 20, none, .load false 1 (.t 1)⟩,
   ⟨some 21, none, .mov (.t 3)⟩,
   ⟨some 22, none, .slc 8 (.t 20) (some (.t 21)) none⟩,
   ⟨none, none, .store 1 (.t 1) (.t 22)⟩]
def F77 : IFunc := ⟨2, 23, [], false,
 .block [] 0 <|
 .loop [0, 1] [] L77_0⟩
def h77 : List (List Nat) := [[], [0, 1], [0, 1, 6], [0, 1], [0, 1], [0, 1, 3], [0, 1, 3, 11], [0, 1, 3], [0, 1, 3], [999999, 0, 1, 3, 19], [0, 1, 3], [0, 1]]
theorem c77 : cFunc Try.prog 77 false h77 = some F77 := by kernel_rfl

def L78_0 : IC :=
 .seq (.reg [0, 1, 7, 8, 9] [⟨some 9, none, .bin .lss (.t 8) (.t 7)⟩]) <|
 .seq (.cond [0, 1, 7, 8] (.t 9)
   (.skip)
   (.exit 0)) <|
 .seq (.block [0, 1, 7, 8] 1 <|
  .seq (.reg [0, 1, 5, 7, 8] [⟨some 10, none, .mov (.t 8)⟩,
     ⟨some 5, none, .mov (.t 10)⟩]) <|
  .seq (.reg [0, 1, 5, 7, 8, 16] [⟨some 11, none, .mov (.t 1)⟩,
     ⟨some 12, none, .mov (.t 0)⟩,
     ⟨some 13, none, .mov (.t 5)⟩,
     ⟨some 14, none, .iaddr 8 (.t 12) (.t 13)⟩,
     ⟨some 15, none, .load true 8 (.t 14)⟩,
     ⟨some 16, none, .call (.t 11) [(.t 15)]⟩]) <|
  .cond [0, 1, 7, 8] (.t 16)
   (.seq (.reg [4] [⟨some 17, none, .mov (.t 5)⟩,
       ⟨some 4, none, .mov (.t 17)⟩]) <|
    .ret)
   (.skip)) <|
 .reg [0, 1, 7, 8] [⟨some 18, none, .bin .add (.t 8) (.c (.g (.int .i64 1)))⟩,
   ⟨some 8, none, .mov (.t 18)⟩]
def F78 : IFunc := ⟨2, 19, [.tmp 4], false,
 .seq (.reg [0, 1] [⟨some 4, none, .mov (.c (.g (.int .i64 0)))⟩]) <|
 .seq (.seq (.reg [0, 1, 7, 8] [⟨some 6, none, .mov (.t 0)⟩,
     ⟨some 7, none, .len (.t 6)⟩,
     ⟨some 8, none, .mov (.c (.g (.int .i64 0)))⟩]) <|
  .block [] 0 <|
  .loop [0, 1, 7, 8] [] L78_0) <|
 .seq (.reg [4] [⟨some 4, none, .mov (.c (.g (.int .i64 (-1))))⟩]) <|
 .ret⟩
def h78 : List (List Nat) := [[0, 1], [0, 1, 7, 8], [], [0, 1, 7, 8], [0, 1, 7, 8, 9], [0, 1, 7, 8], [0, 1, 7, 8], [0, 1, 5, 7, 8], [0, 1, 5, 7, 8, 16], [0, 1, 7, 8], [4], [0, 1, 7, 8], [4]]
theorem c78 : cFunc Try.prog 78 false h78 = some F78 := by kernel_rfl

def F79 : IFunc := ⟨2, 11, [.tmp 3], false,
 .seq (.reg [1, 2] [⟨some 2, none, .box (.t 0)⟩,
    ⟨some 3, none, .mov (.c (.g (.bool false)))⟩]) <|
 .seq (.drw [3] 0 <|
  .take ⟨some 4, none, .faddr 0 (.t 2)⟩ <|
  .take ⟨some 5, none, .load false 1 (.t 4)⟩ <|
  .take ⟨some 6, none, .load false 1 (.t 1)⟩ <|
  .take ⟨some 7, none, .iaddr 8 (.t 6) (.c (.g (.int .i64 0)))⟩ <|
  .take ⟨some 8, none, .faddr 0 (.t 7)⟩ <|
  .take ⟨some 9, none, .load false 1 (.t 8)⟩ <|
  .take ⟨some 10, none, .bin .neq (.t 5) (.t 9)⟩ <|
  .free <|
  .take ⟨some 3, none, .mov (.t 10)⟩ <|
  .leaf) <|
 .ret⟩
def h79 : List (List Nat) := [[1, 2], [3], []]
theorem c79 : cFunc Try.prog 79 false h79 = some F79 := by kernel_rfl

def F80 : IFunc := ⟨2, 8, [.tmp 4], false,
 .seq (.reg [0, 1] [⟨some 4, none, .mov (.c (.g (.bool false)))⟩]) <|
 .seq (.reg [4] [⟨some 5, none, .mov (.t 0)⟩,
    ⟨some 6, none, .mov (.t 1)⟩,
    ⟨some 7, none, .call (.c (.g (.fn 99))) [(.t 5), (.t 6)]⟩,
    ⟨some 4, none, .mov (.t 7)⟩]) <|
 .ret⟩
def h80 : List (List Nat) := [[0, 1], [4]]
theorem c80 : cFunc Try.prog 80 false h80 = some F80 := by kernel_rfl

def F81 : IFunc := ⟨2, 23, [.tmp 4], false,
 .seq (.reg [0, 1] [⟨some 4, none, .nres 6⟩]) <|
 .seq (.reg [0, 5] [⟨some 6, none, .mov (.t 0)⟩,
    ⟨some 7, none, .mov (.t 1)⟩,
    ⟨some 8, none, .call (.c (.g (.fn 101))) [(.t 7)]⟩,
    ⟨some 9, none, .call (.c (.g (.fn 100))) [(.t 6), (.t 8)]⟩,
    ⟨some 5, none, .mov (.t 9)⟩]) <|
 .seq (.seq (.reg [0, 5, 11] [⟨some 10, none, .mov (.t 5)⟩,
     ⟨some 11, none, .bin .lss (.t 10) (.c (.g (.int .i64 0)))⟩]) <|
  .cond [0, 5] (.t 11)
   (.seq (.reg [4] [⟨some 12, none, .mov (.t 0)⟩,
       ⟨some 13, none, .call (.c (.g (.fn 50))) [(.t 12)]⟩,
       ⟨some 4, none, .mov (.t 13)⟩]) <|
    .ret)
   (.skip)) <|
 .seq (.drw [4] 0 <|
  .free <|
  .take ⟨some 14, none, .mov (.t 0)⟩ <|
  .take ⟨some 15, none, .mov (.t 5)⟩ <|
  .take ⟨some 16, none, .slc 6 (.t 14) none (some (.t 15))⟩ <|
  .take ⟨some 17, none, .mov (.t 0)⟩ <|
  .take ⟨some 18, none, .mov (.t 5)⟩ <|
  .take ⟨some 19, none, .bin .add (.t 18) (.c (.g (.int .i64 1)))⟩ <|
  .take ⟨some 20, none, .slc 6 (.t 17) (some (.t 19)) none⟩ <|
  .one ⟨some 21, none, .bslice 1 2 [.nsl] [(0, 1, (.t 16)), (1, 1, (.t 20))]⟩ <|
  .one ⟨some 22, none, .call (.c (.g (.fn 102))) [(.t 21)]⟩ <|
  .take ⟨some 4, none, .mov (.t 22)⟩ <|
  .leaf) <|
 .ret⟩
def h81 : List (List Nat) := [[0, 1], [0, 5], [0, 5, 11], [0, 5], [4], [4], []]
theorem c81 : cFunc Try.prog 81 false h81 = some F81 := by kernel_rfl

def L82_0 : IC :=
 .seq (.reg [3, 5, 6, 9, 10, 11, 12] [⟨some 12, none, .bin .lss (.t 11) (.t 10)⟩]) <|
 .seq (.cond [3, 5, 6, 9, 10, 11] (.t 12)
   (.skip)
   (.exit 0)) <|
 .seq (.block [3, 5, 6, 9, 10, 11] 1 <|
  .seq (.reg [3, 5, 6, 8, 9, 10, 11] [⟨some 13, none, .iaddr 6 (.t 9) (.t 11)⟩,
     ⟨some 14, none, .load true 6 (.t 13)⟩,
     ⟨some 8, none, .alloc [.z (.str []), .z (.str []), .z (.int .i64 0), .z (.int .i64 0), .z (.int .i64 0), .z (.int .i64 0)]⟩,
     ⟨none, none, .store 6 (.t 8) (.t 14)⟩]) <|
  .seq (.block [3, 5, 9, 10, 11] 2 <|
   .seq (.reg [3, 5, 6, 8, 9, 10, 11, 20] [⟨some 21, none, .mov (.t 6)⟩,
      ⟨some 22, none, .mov (.t 21)⟩,
      ⟨some 23, (some (22, false)), .faddr 0 (.t 8)⟩,
      ⟨some 24, (some (22, false)), .load false 1 (.t 23)⟩,
      ⟨some 25, (some (22, false)), .faddr 0 (.t 3)⟩,
      ⟨some 26, (some (22, false)), .load false 1 (.t 25)⟩,
      ⟨some 27, (some (22, false)), .bin .lss (.t 24) (.t 26)⟩,
      ⟨some 28, none, .pick (.t 22) (.c (.g (.bool true))) (.t 27)⟩,
      ⟨some 20, none, .mov (.t 28)⟩]) <|
   .cond [3, 5, 9, 10, 11] (.t 20)
    (.seq (.reg [3, 5, 6, 9, 10, 11] [⟨some 29, none, .mov (.t 5)⟩,
        ⟨some 30, none, .load true 6 (.t 8)⟩,
        ⟨some 31, none, .bslice 6 1 [.str [], .str [], .int .i64 0, .int .i64 0, .int .i64 0, .int .i64 0] [(0, 6, (.t 30))]⟩,
        ⟨some 32, none, .app 6 64 (.t 29) (.t 31)⟩,
        ⟨some 5, none, .mov (.t 32)⟩]) <|
     .exit 1)
    (.seq (.reg [3, 5, 8, 9, 10, 11, 33] [⟨some 34, none, .faddr 0 (.t 8)⟩,
        ⟨some 35, none, .load false 1 (.t 34)⟩,
        ⟨some 36, none, .faddr 0 (.t 3)⟩,
        ⟨some 37, none, .load false 1 (.t 36)⟩,
        ⟨some 38, none, .bin .eql (.t 35) (.t 37)⟩,
        ⟨some 33, none, .mov (.t 38)⟩]) <|
     .cond [3, 5, 9, 10, 11] (.t 33)
      (.reg [3, 5, 9, 10, 11] [⟨some 39, none, .mov (.t 5)⟩,
         ⟨some 40, none, .load true 6 (.t 3)⟩,
         ⟨some 41, none, .bslice 6 1 [.str [], .str [], .int .i64 0, .int .i64 0, .int .i64 0, .int .i64 0] [(0, 6, (.t 40))]⟩,
         ⟨some 42, none, .app 6 64 (.t 39) (.t 41)⟩,
         ⟨some 5, none, .mov (.t 42)⟩])
      (.reg [3, 5, 9, 10, 11] [⟨some 15, none, .mov (.t 5)⟩,
         ⟨some 16, none, .load true 6 (.t 3)⟩,
         ⟨some 17, none, .load true 6 (.t 8)⟩,
         ⟨some 18, none, .bslice 6 2 [.str [], .str [], .int .i64 0, .int .i64 0, .int .i64 0, .int .i64 0] [(0, 6, (.t 16)), (6, 6, (.t 17))]⟩,
         ⟨some 19, none, .app 6 64 (.t 15) (.t 18)⟩,
         ⟨some 5, none, .mov (.t 19)⟩]))) <|
  .reg [3, 5, 6, 9, 10, 11] [⟨some 6, none, .mov (.c (.g (.bool true)))⟩]) <|
 .reg [3, 5, 6, 9, 10, 11] [⟨some 43, none, .bin .add (.t 11) (.c (.g (.int .i64 1)))⟩,
   ⟨some 11, none, .mov (.t 43)⟩]
def F82 : IFunc := ⟨2, 51, [.tmp 4], false,
 .seq (.reg [0, 3] [⟨some 3, none, .box (.t 1)⟩,
    ⟨some 4, none, .nres 6⟩]) <|
 .seq (.reg [0, 3, 5] [⟨some 5, none, .nres 6⟩]) <|
 .seq (.reg [0, 3, 5, 6] [⟨some 6, none, .mov (.c (.g (.bool false)))⟩]) <|
 .seq (.skip) <|
 .seq (.seq (.reg [3, 5, 6, 9, 10, 11] [⟨some 9, none, .mov (.t 0)⟩,
     ⟨some 10, none, .len (.t 9)⟩,
     ⟨some 11, none, .mov (.c (.g (.int .i64 0)))⟩]) <|
  .block [3, 5, 6] 0 <|
  .loop [3, 5, 6, 9, 10, 11] [] L82_0) <|
 .seq (.seq (.reg [3, 5, 45] [⟨some 44, none, .mov (.t 6)⟩,
     ⟨some 45, none, .un .not (.t 44)⟩]) <|
  .cond [5] (.t 45)
   (.reg [5] [⟨some 46, none, .mov (.t 5)⟩,
      ⟨some 47, none, .load true 6 (.t 3)⟩,
      ⟨some 48, none, .bslice 6 1 [.str [], .str [], .int .i64 0, .int .i64 0, .int .i64 0, .int .i64 0] [(0, 6, (.t 47))]⟩,
      ⟨some 49, none, .app 6 64 (.t 46) (.t 48)⟩,
      ⟨some 5, none, .mov (.t 49)⟩])
   (.skip)) <|
 .seq (.reg [4] [⟨some 50, none, .mov (.t 5)⟩,
    ⟨some 4, none, .mov (.t 50)⟩]) <|
 .ret⟩
def h82 : List (List Nat) := [[0, 3], [0, 3, 5], [0, 3, 5, 6], [3, 5, 6, 9, 10, 11], [3, 5, 6], [3, 5, 6, 9, 10, 11], [3, 5, 6, 9, 10, 11, 12], [3, 5, 6, 9, 10, 11], [3, 5, 6, 9, 10, 11], [3, 5, 6, 8, 9, 10, 11], [3, 5, 9, 10, 11], [3, 5, 6, 8, 9, 10, 11, 20], [3, 5, 9, 10, 11], [3, 5, 6, 9, 10, 11], [3, 5, 8, 9, 10, 11, 33], [3, 5, 9, 10, 11], [3, 5, 9, 10, 11], [3, 5, 9, 10, 11], [3, 5, 6, 9, 10, 11], [3, 5, 6, 9, 10, 11], [3, 5, 45], [5], [5], [4]]
theorem c82 : cFunc Try.prog 82 false h82 = some F82 := by kernel_rfl

def F83 : IFunc := ⟨1, 5, [.tmp 2], false,
 .seq (.reg [0] [⟨some 2, none, .mov (.c (.g (.bool false)))⟩]) <|
 .seq (.reg [2] [⟨some 3, none, .mov (.t 0)⟩,
    ⟨some 4, none, .call (.c (.g (.fn 103))) [(.t 3), (.c (.g (.int .i64 40))), (.c (.g (.fn 104)))]⟩,
    ⟨some 2, none, .mov (.t 4)⟩]) <|
 .ret⟩
def h83 : List (List Nat) := [[0], [2]]
theorem c83 : cFunc Try.prog 83 false h83 = some F83 := by kernel_rfl

def F84 : IFunc := ⟨2, 18, [.cell 4 true 6, .tmp 5], false,
 .seq (.reg [0, 1, 4] [⟨some 4, none, .alloc [.z (.str []), .z (.str []), .z (.int .i64 0), .z (.int .i64 0), .z (.int .i64 0), .z (.int .i64 0)]⟩,
    ⟨some 5, none, .mov (.c (.g (.bool false)))⟩]) <|
 .seq (.reg [0, 4, 6] [⟨some 7, none, .mov (.t 0)⟩,
    ⟨some 8, none, .mov (.t 1)⟩,
    ⟨some 9, none, .call (.c (.g (.fn 101))) [(.t 8)]⟩,
    ⟨some 10, none, .call (.c (.g (.fn 100))) [(.t 7), (.t 9)]⟩,
    ⟨some 6, none, .mov (.t 10)⟩]) <|
 .seq (.seq (.reg [0, 4, 6, 12] [⟨some 11, none, .mov (.t 6)⟩,
     ⟨some 12, none, .bin .lss (.t 11) (.c (.g (.int .i64 0)))⟩]) <|
  .cond [0, 4, 6] (.t 12)
   (.seq (.reg [4, 5] [⟨some 13, none, .build [.g (.str []), .g (.str []), .g (.int .i64 0), .g (.int .i64 0), .g (.int .i64 0), .g (.int .i64 0)] []⟩,
       ⟨none, none, .store 6 (.t 4) (.t 13)⟩,
       ⟨some 5, none, .mov (.c (.g (.bool false)))⟩]) <|
    .ret)
   (.skip)) <|
 .seq (.reg [4, 5] [⟨some 14, none, .mov (.t 0)⟩,
    ⟨some 15, none, .mov (.t 6)⟩,
    ⟨some 16, none, .iaddr 6 (.t 14) (.t 15)⟩,
    ⟨some 17, none, .load true 6 (.t 16)⟩,
    ⟨none, none, .store 6 (.t 4) (.t 17)⟩,
    ⟨some 5, none, .mov (.c (.g (.bool true)))⟩]) <|
 .ret⟩
def h84 : List (List Nat) := [[0, 1, 4], [0, 4, 6], [0, 4, 6, 12], [0, 4, 6], [4, 5], [4, 5]]
theorem c84 : cFunc Try.prog 84 false h84 = some F84 := by kernel_rfl

def F85 : IFunc := ⟨3, 35, [.cell 6 true 6], false,
 .seq (.reg [0, 2, 4, 6] [⟨some 4, none, .box (.t 1)⟩,
    ⟨some 6, none, .alloc [.z (.str []), .z (.str []), .z (.int .i64 0), .z (.int .i64 0), .z (.int .i64 0), .z (.int .i64 0)]⟩]) <|
 .seq (.reg [0, 4, 6, 7] [⟨some 10, none, .faddr 1 (.t 4)⟩,
    ⟨some 11, none, .load false 1 (.t 10)⟩,
    ⟨some 12, none, .faddr 2 (.t 4)⟩,
    ⟨some 13, none, .load false 1 (.t 12)⟩,
    ⟨some 14, none, .mov (.t 2)⟩,
    ⟨some 15, none, .mov (.t 2)⟩,
    ⟨some 16, none, .faddr 3 (.t 4)⟩,
    ⟨some 17, none, .load false 1 (.t 16)⟩,
    ⟨some 18, none, .build [.g (.str []), .g (.str []), .g (.int .i64 0), .g (.int .i64 0), .g (.int .i64 0), .g (.int .i64 0)] [(0, 1, (.t 11)), (1, 1, (.t 13)), (2, 1, (.t 14)), (3, 1, (.t 15)), (4, 1, (.c (.g (.int .i64 1)))), (5, 1, (.t 17))]⟩,
    ⟨some 7, none, .alloc [.z (.str []), .z (.str []), .z (.int .i64 0), .z (.int .i64 0), .z (.int .i64 0), .z (.int .i64 0)]⟩,
    ⟨none, none, .store 6 (.t 7) (.t 18)⟩]) <|
 .seq (.seq (.reg [6, 7, 8, 9] [⟨some 20, none, .mov (.t 0)⟩,
     ⟨some 21, none, .faddr 1 (.t 4)⟩,
     ⟨some 22, none, .load false 1 (.t 21)⟩,
     ⟨some 23, none, .call (.c (.g (.fn 84))) [(.t 20), (.t 22)]⟩,
     ⟨some 19, none, .mov (.t 23)⟩,
     ⟨some 24, none, .ext 0 (.t 19)⟩,
     ⟨some 25, none, .ext 1 (.t 19)⟩,
     ⟨some 8, none, .alloc [.z (.str []), .z (.str []), .z (.int .i64 0), .z (.int .i64 0), .z (.int .i64 0), .z (.int .i64 0)]⟩,
     ⟨none, none, .store 6 (.t 8) (.t 24)⟩,
     ⟨some 9, none, .mov (.t 25)⟩]) <|
  .seq (.reg [6, 7, 8, 26] [⟨some 26, none, .mov (.t 9)⟩]) <|
  .cond [6, 7] (.t 26)
   (.drw [6, 7] 0 <|
    .take ⟨some 27, none, .faddr 2 (.t 8)⟩ <|
    .take ⟨some 28, none, .load false 1 (.t 27)⟩ <|
    .take ⟨some 29, none, .faddr 4 (.t 8)⟩ <|
    .take ⟨some 30, none, .load false 1 (.t 29)⟩ <|
    .take ⟨some 31, none, .bin .add (.t 30) (.c (.g (.int .i64 1)))⟩ <|
    .take ⟨some 32, none, .faddr 2 (.t 7)⟩ <|
    .one ⟨none, none, .store 1 (.t 32) (.t 28)⟩ <|
    .free <|
    .take ⟨some 33, none, .faddr 4 (.t 7)⟩ <|
    .one ⟨none, none, .store 1 (.t 33) (.t 31)⟩ <|
    .leaf)
   (.skip)) <|
 .seq (.reg [6] [⟨some 34, none, .load true 6 (.t 7)⟩,
    ⟨none, none, .store 6 (.t 6) (.t 34)⟩]) <|
 .ret⟩
def h85 : List (List Nat) := [[0, 2, 4, 6], [0, 4, 6, 7], [6, 7, 8, 9], [6, 7, 8, 26], [6, 7], [6, 7], [], [6]]
theorem c85 : cFunc Try.prog 85 false h85 = some F85 := by kernel_rfl

def F86 : IFunc := ⟨2, 27, [.tmp 4], true,
 .seq (.reg [0, 1] [⟨some 4, none, .nres 8⟩]) <|
 .seq (.seq (.reg [0, 1, 6] [⟨some 5, none, .mov (.t 1)⟩,
     ⟨some 6, none, .bin .lss (.t 5) (.c (.g (.int .i64 0)))⟩]) <|
  .cond [0, 1] (.t 6)
   (.reg [0, 1] [⟨some 7, none, .mkif 9 (.c (.g (.str [99, 97, 110, 110, 111, 116, 32, 98, 101, 32, 110, 101, 103, 97, 116, 105, 118, 101])))⟩,
      ⟨none, none, .row 0 []⟩])
   (.skip)) <|
 .seq (.seq (.reg [0, 1] [⟨some 8, none, .mov (.t 1)⟩,
     ⟨some 9, none, .mov (.t 0)⟩,
     ⟨some 10, none, .cap (.t 9)⟩,
     ⟨some 11, none, .mov (.t 0)⟩,
     ⟨some 12, none, .len (.t 11)⟩,
     ⟨some 13, none, .bin .sub (.t 10) (.t 12)⟩,
     ⟨some 14, none, .bin .sub (.t 8) (.t 13)⟩,
     ⟨some 1, none, .mov (.t 14)⟩]) <|
  .seq (.reg [0, 1, 16] [⟨some 15, none, .mov (.t 1)⟩,
     ⟨some 16, none, .bin .gtr (.t 15) (.c (.g (.int .i64 0)))⟩]) <|
  .cond [0] (.t 16)
   (.reg [0] [⟨some 17, none, .mov (.t 0)⟩,
      ⟨some 18, none, .mov (.t 0)⟩,
      ⟨some 19, none, .cap (.t 18)⟩,
      ⟨some 20, none, .slc 8 (.t 17) none (some (.t 19))⟩,
      ⟨some 21, none, .mov (.t 1)⟩,
      ⟨some 22, none, .appZ 8 80 [.int .i64 0, .bool false, .str [], .str [], .int .i64 0, .int .i64 0, .int .i64 0, .int .i64 0] (.t 20) (.t 21)⟩,
      ⟨some 23, none, .mov (.t 0)⟩,
      ⟨some 24, none, .len (.t 23)⟩,
      ⟨some 25, none, .slc 8 (.t 22) none (some (.t 24))⟩,
      ⟨some 0, none, .mov (.t 25)⟩])
   (.skip)) <|
 .seq (.reg [4] [⟨some 26, none, .mov (.t 0)⟩,
    ⟨some 4, none, .mov (.t 26)⟩]) <|
 .ret⟩
def h86 : List (List Nat) := [[0, 1], [0, 1, 6], [0, 1], [0, 1], [0, 1], [0, 1, 16], [0], [0], [4]]
theorem c86 : cFunc Try.prog 86 true h86 = some F86 := by kernel_rfl

def L87_0 : IC :=
 .seq (.reg [0, 1, 7, 8, 9] [⟨some 9, none, .bin .lss (.t 8) (.t 7)⟩]) <|
 .seq (.cond [0, 1, 7, 8] (.t 9)
   (.skip)
   (.exit 0)) <|
 .seq (.block [0, 1, 7, 8] 1 <|
  .seq (.reg [0, 1, 5, 7, 8] [⟨some 10, none, .mov (.t 8)⟩,
     ⟨some 5, none, .mov (.t 10)⟩]) <|
  .seq (.reg [0, 1, 5, 7, 8, 16] [⟨some 11, none, .mov (.t 1)⟩,
     ⟨some 12, none, .mov (.t 0)⟩,
     ⟨some 13, none, .mov (.t 5)⟩,
     ⟨some 14, none, .iaddr 1 (.t 12) (.t 13)⟩,
     ⟨some 15, none, .load false 1 (.t 14)⟩,
     ⟨some 16, none, .bin .eql (.t 11) (.t 15)⟩]) <|
  .cond [0, 1, 7, 8] (.t 16)
   (.seq (.reg [4] [⟨some 17, none, .mov (.t 5)⟩,
       ⟨some 4, none, .mov (.t 17)⟩]) <|
    .ret)
   (.skip)) <|
 .reg [0, 1, 7, 8] [⟨some 18, none, .bin .add (.t 8) (.c (.g (.int .i64 1)))⟩,
   ⟨some 8, none, .mov (.t 18)⟩]
def F87 : IFunc := ⟨2, 19, [.tmp 4], false,
 .seq (.reg [0, 1] [⟨some 4, none, .mov (.c (.g (.int .i64 0)))⟩]) <|
 .seq (.seq (.reg [0, 1, 7, 8] [⟨some 6, none, .mov (.t 0)⟩,
     ⟨some 7, none, .len (.t 6)⟩,
     ⟨some 8, none, .mov (.c (.g (.int .i64 0)))⟩]) <|
  .block [] 0 <|
  .loop [0, 1, 7, 8] [] L87_0) <|
 .seq (.reg [4] [⟨some 4, none, .mov (.c (.g (.int .i64 (-1))))⟩]) <|
 .ret⟩
def h87 : List (List Nat) := [[0, 1], [0, 1, 7, 8], [], [0, 1, 7, 8], [0, 1, 7, 8, 9], [0, 1, 7, 8], [0, 1, 7, 8], [0, 1, 5, 7, 8], [0, 1, 5, 7, 8, 16], [0, 1, 7, 8], [4], [0, 1, 7, 8], [4]]
theorem c87 : cFunc Try.prog 87 false h87 = some F87 := by kernel_rfl

def F88 : IFunc := ⟨2, 27, [.tmp 4], true,
 .seq (.reg [0, 1] [⟨some 4, none, .nres 11⟩]) <|
 .seq (.seq (.reg [0, 1, 6] [⟨some 5, none, .mov (.t 1)⟩,
     ⟨some 6, none, .bin .lss (.t 5) (.c (.g (.int .i64 0)))⟩]) <|
  .cond [0, 1] (.t 6)
   (.reg [0, 1] [⟨some 7, none, .mkif 9 (.c (.g (.str [99, 97, 110, 110, 111, 116, 32, 98, 101, 32, 110, 101, 103, 97, 116, 105, 118, 101])))⟩,
      ⟨none, none, .row 0 []⟩])
   (.skip)) <|
 .seq (.seq (.reg [0, 1] [⟨some 8, none, .mov (.t 1)⟩,
     ⟨some 9, none, .mov (.t 0)⟩,
     ⟨some 10, none, .cap (.t 9)⟩,
     ⟨some 11, none, .mov (.t 0)⟩,
     ⟨some 12, none, .len (.t 11)⟩,
     ⟨some 13, none, .bin .sub (.t 10) (.t 12)⟩,
     ⟨some 14, none, .bin .sub (.t 8) (.t 13)⟩,
     ⟨some 1, none, .mov (.t 14)⟩]) <|
  .seq (.reg [0, 1, 16] [⟨some 15, none, .mov (.t 1)⟩,
     ⟨some 16, none, .bin .gtr (.t 15) (.c (.g (.int .i64 0)))⟩]) <|
  .cond [0] (.t 16)
   (.reg [0] [⟨some 17, none, .mov (.t 0)⟩,
      ⟨some 18, none, .mov (.t 0)⟩,
      ⟨some 19, none, .cap (.t 18)⟩,
      ⟨some 20, none, .slc 11 (.t 17) none (some (.t 19))⟩,
      ⟨some 21, none, .mov (.t 1)⟩,
      ⟨some 22, none, .appZ 11 120 [.int .i64 0, .int .i64 0, .int .i64 0, .int .i64 0, .int .i64 0, .int .i64 0, .int .i64 0, .int .i64 0, .bool false, .nsl, .nsl] (.t 20) (.t 21)⟩,
      ⟨some 23, none, .mov (.t 0)⟩,
      ⟨some 24, none, .len (.t 23)⟩,
      ⟨some 25, none, .slc 11 (.t 22) none (some (.t 24))⟩,
      ⟨some 0, none, .mov (.t 25)⟩])
   (.skip)) <|
 .seq (.reg [4] [⟨some 26, none, .mov (.t 0)⟩,
    ⟨some 4, none, .mov (.t 26)⟩]) <|
 .ret⟩
def h88 : List (List Nat) := [[0, 1], [0, 1, 6], [0, 1], [0, 1], [0, 1], [0, 1, 16], [0], [0], [4]]
theorem c88 : cFunc Try.prog 88 true h88 = some F88 := by kernel_rfl

def L89_0 : IC :=
 .seq (.reg [0, 1, 7, 8, 9] [⟨some 9, none, .bin .lss (.t 8) (.t 7)⟩]) <|
 .seq (.cond [0, 1, 7, 8] (.t 9)
   (.skip)
   (.exit 0)) <|
 .seq (.block [0, 1, 7, 8] 1 <|
  .seq (.reg [0, 1, 5, 7, 8] [⟨some 10, none, .mov (.t 8)⟩,
     ⟨some 5, none, .mov (.t 10)⟩]) <|
  .seq (.reg [0, 1, 5, 7, 8, 16] [⟨some 11, none, .mov (.t 1)⟩,
     ⟨some 12, none, .mov (.t 0)⟩,
     ⟨some 13, none, .mov (.t 5)⟩,
     ⟨some 14, none, .iaddr 2 (.t 12) (.t 13)⟩,
     ⟨some 15, none, .load true 2 (.t 14)⟩,
     ⟨some 16, none, .call (.t 11) [(.t 15)]⟩]) <|
  .cond [0, 1, 7, 8] (.t 16)
   (.seq (.reg [4] [⟨some 17, none, .mov (.t 5)⟩,
       ⟨some 4, none, .mov (.t 17)⟩]) <|
    .ret)
   (.skip)) <|
 .reg [0, 1, 7, 8] [⟨some 18, none, .bin .add (.t 8) (.c (.g (.int .i64 1)))⟩,
   ⟨some 8, none, .mov (.t 18)⟩]
def F89 : IFunc := ⟨2, 19, [.tmp 4], false,
 .seq (.reg [0, 1] [⟨some 4, none, .mov (.c (.g (.int .i64 0)))⟩]) <|
 .seq (.seq (.reg [0, 1, 7, 8] [⟨some 6, none, .mov (.t 0)⟩,
     ⟨some 7, none, .len (.t 6)⟩,
     ⟨some 8, none, .mov (.c (.g (.int .i64 0)))⟩]) <|
  .block [] 0 <|
  .loop [0, 1, 7, 8] [] L89_0) <|
 .seq (.reg [4] [⟨some 4, none, .mov (.c (.g (.int .i64 (-1))))⟩]) <|
 .ret⟩
def h89 : List (List Nat) := [[0, 1], [0, 1, 7, 8], [], [0, 1, 7, 8], [0, 1, 7, 8, 9], [0, 1, 7, 8], [0, 1, 7, 8], [0, 1, 5, 7, 8], [0, 1, 5, 7, 8, 16], [0, 1, 7, 8], [4], [0, 1, 7, 8], [4]]
theorem c89 : cFunc Try.prog 89 false h89 = some F89 := by kernel_rfl

def F90 : IFunc := ⟨2, 8, [.tmp 3], false,
 .seq (.reg [1, 2] [⟨some 2, none, .box (.t 0)⟩,
    ⟨some 3, none, .mov (.c (.g (.bool false)))⟩]) <|
 .seq (.reg [3] [⟨some 4, none, .faddr 0 (.t 2)⟩,
    ⟨some 5, none, .load false 1 (.t 4)⟩,
    ⟨some 6, none, .load false 1 (.t 1)⟩,
    ⟨some 7, none, .bin .eql (.t 5) (.t 6)⟩,
    ⟨some 3, none, .mov (.t 7)⟩]) <|
 .ret⟩
def h90 : List (List Nat) := [[1, 2], [3]]
theorem c90 : cFunc Try.prog 90 false h90 = some F90 := by kernel_rfl

def L91_0 : IC :=
 .seq (.reg [0, 3, 9, 10, 11, 12] [⟨some 12, none, .bin .lss (.t 11) (.t 10)⟩]) <|
 .seq (.cond [0, 3, 9, 10, 11] (.t 12)
   (.skip)
   (.exit 0)) <|
 .seq (.block [0, 3, 9, 10, 11] 1 <|
  .seq (.reg [0, 3, 5, 9, 10, 11] [⟨some 13, none, .iaddr 1 (.t 9) (.t 11)⟩,
     ⟨some 14, none, .load false 1 (.t 13)⟩,
     ⟨some 5, none, .mov (.t 14)⟩]) <|
  .seq (.reg [0, 3, 9, 10, 11] [⟨some 15, none, .mov (.t 3)⟩,
     ⟨some 16, none, .mov (.t 5)⟩,
     ⟨some 17, none, .len (.t 16)⟩,
     ⟨some 18, none, .bin .add (.t 15) (.t 17)⟩,
     ⟨some 3, none, .mov (.t 18)⟩]) <|
  .seq (.reg [0, 3, 9, 10, 11, 20] [⟨some 19, none, .mov (.t 3)⟩,
     ⟨some 20, none, .bin .lss (.t 19) (.c (.g (.int .i64 0)))⟩]) <|
  .cond [0, 3, 9, 10, 11] (.t 20)
   (.reg [0, 3, 9, 10, 11] [⟨some 21, none, .mkif 9 (.c (.g (.str [108, 101, 110, 32, 111, 117, 116, 32, 111, 102, 32, 114, 97, 110, 103, 101])))⟩,
      ⟨none, none, .row 0 []⟩])
   (.skip)) <|
 .reg [0, 3, 9, 10, 11] [⟨some 22, none, .bin .add (.t 11) (.c (.g (.int .i64 1)))⟩,
   ⟨some 11, none, .mov (.t 22)⟩]
def L91_1 : IC :=
 .seq (.reg [6, 25, 26, 27, 28] [⟨some 28, none, .bin .lss (.t 27) (.t 26)⟩]) <|
 .seq (.cond [6, 25, 26, 27] (.t 28)
   (.skip)
   (.exit 2)) <|
 .seq (.block [6, 25, 26, 27] 3 <|
  .seq (.reg [6, 8, 25, 26, 27] [⟨some 29, none, .iaddr 1 (.t 25) (.t 27)⟩,
     ⟨some 30, none, .load false 1 (.t 29)⟩,
     ⟨some 8, none, .mov (.t 30)⟩]) <|
  .reg [6, 25, 26, 27] [⟨some 31, none, .mov (.t 6)⟩,
    ⟨some 32, none, .mov (.t 8)⟩,
    ⟨some 33, none, .app 2 16 (.t 31) (.t 32)⟩,
    ⟨some 6, none, .mov (.t 33)⟩]) <|
 .reg [6, 25, 26, 27] [⟨some 34, none, .bin .add (.t 27) (.c (.g (.int .i64 1)))⟩,
   ⟨some 27, none, .mov (.t 34)⟩]
def F91 : IFunc := ⟨1, 36, [.tmp 2], false,
 .seq (.reg [0] [⟨some 2, none, .nres 2⟩]) <|
 .seq (.reg [0, 3] [⟨some 3, none, .mov (.c (.g (.int .i64 0)))⟩]) <|
 .seq (.seq (.reg [0, 3, 9, 10, 11] [⟨some 9, none, .mov (.t 0)⟩,
     ⟨some 10, none, .len (.t 9)⟩,
     ⟨some 11, none, .mov (.c (.g (.int .i64 0)))⟩]) <|
  .block [0, 3] 0 <|
  .loop [0, 3, 9, 10, 11] [] L91_0) <|
 .seq (.reg [0, 6] [⟨some 23, none, .mov (.t 3)⟩,
    ⟨some 24, none, .call (.c (.g (.fn 105))) [(.c (.g (.nsl))), (.t 23)]⟩,
    ⟨some 6, none, .mov (.t 24)⟩]) <|
 .seq (.seq (.reg [6, 25, 26, 27] [⟨some 25, none, .mov (.t 0)⟩,
     ⟨some 26, none, .len (.t 25)⟩,
     ⟨some 27, none, .mov (.c (.g (.int .i64 0)))⟩]) <|
  .block [6] 2 <|
  .loop [6, 25, 26, 27] [] L91_1) <|
 .seq (.reg [2] [⟨some 35, none, .mov (.t 6)⟩,
    ⟨some 2, none, .mov (.t 35)⟩]) <|
 .ret⟩
def h91 : List (List Nat) := [[0], [0, 3], [0, 3, 9, 10, 11], [0, 3], [0, 3, 9, 10, 11], [0, 3, 9, 10, 11, 12], [0, 3, 9, 10, 11], [0, 3, 9, 10, 11], [0, 3, 5, 9, 10, 11], [0, 3, 9, 10, 11], [0, 3, 9, 10, 11, 20], [0, 3, 9, 10, 11], [0, 3, 9, 10, 11], [0, 3, 9, 10, 11], [0, 6], [6, 25, 26, 27], [6], [6, 25, 26, 27], [6, 25, 26, 27, 28], [6, 25, 26, 27], [6, 25, 26, 27], [6, 8, 25, 26, 27], [6, 25, 26, 27], [6, 25, 26, 27], [2]]
theorem c91 : cFunc Try.prog 91 false h91 = some F91 := by kernel_rfl

def F92 : IFunc := ⟨1, 8, [.tmp 2], true,
 .seq (.reg [0] [⟨some 2, none, .nres 2⟩]) <|
 .seq (.seq (.reg [0, 4] [⟨some 3, none, .mov (.t 0)⟩,
     ⟨some 4, none, .isnilS false (.t 3)⟩]) <|
  .cond [0] (.t 4)
   (.seq (.reg [2] [⟨some 2, none, .nres 2⟩]) <|
    .ret)
   (.skip)) <|
 .seq (.reg [2] [⟨some 5, none, .mk0 2⟩,
    ⟨some 6, none, .mov (.t 0)⟩,
    ⟨some 7, none, .app 2 16 (.t 5) (.t 6)⟩,
    ⟨some 2, none, .mov (.t 7)⟩]) <|
 .ret⟩
def h92 : List (List Nat) := [[0], [0, 4], [0], [2], [2]]
theorem c92 : cFunc Try.prog 92 true h92 = some F92 := by kernel_rfl

def F97 : IFunc := ⟨1, 59, [.tmp 2], false,
 .seq (.reg [1] [⟨some 1, none, .box (.t 0)⟩,
    ⟨some 2, none, .mov (.c (.g (.bool false)))⟩]) <|
 .seq (.seq (.reg [1, 22] [⟨some 3, none, .faddr 0 (.t 1)⟩,
     ⟨some 4, none, .load false 1 (.t 3)⟩,
     ⟨some 5, none, .call (.c (.g (.fn 118))) [(.t 4)]⟩,
     ⟨some 6, none, .un .not (.t 5)⟩,
     ⟨some 7, none, .mov (.t 6)⟩,
     ⟨some 8, (some (7, false)), .faddr 1 (.t 1)⟩,
     ⟨some 9, (some (7, false)), .load false 1 (.t 8)⟩,
     ⟨some 10, (some (7, false)), .lenS (.t 9)⟩,
     ⟨some 11, (some (7, false)), .bin .gtr (.t 10) (.c (.g (.int .i64 20)))⟩,
     ⟨some 12, none, .pick (.t 7) (.c (.g (.bool true))) (.t 11)⟩,
     ⟨some 13, none, .mov (.t 12)⟩,
     ⟨some 14, (some (13, false)), .faddr 2 (.t 1)⟩,
     ⟨some 15, (some (13, false)), .load false 1 (.t 14)⟩,
     ⟨some 16, (some (13, false)), .bin .lss (.t 15) (.c (.g (.int .i64 1)))⟩,
     ⟨some 17, none, .pick (.t 13) (.c (.g (.bool true))) (.t 16)⟩,
     ⟨some 18, none, .mov (.t 17)⟩,
     ⟨some 19, (some (18, false)), .faddr 2 (.t 1)⟩,
     ⟨some 20, (some (18, false)), .load false 1 (.t 19)⟩,
     ⟨some 21, (some (18, false)), .bin .gtr (.t 20) (.c (.g (.int .i64 1099511627775)))⟩,
     ⟨some 22, none, .pick (.t 18) (.c (.g (.bool true))) (.t 21)⟩]) <|
  .cond [1] (.t 22)
   (.seq (.reg [2] [⟨some 2, none, .mov (.c (.g (.bool false)))⟩]) <|
    .ret)
   (.skip)) <|
 .seq (.reg [2] [⟨some 23, none, .faddr 3 (.t 1)⟩,
    ⟨some 24, none, .load false 1 (.t 23)⟩,
    ⟨some 25, none, .faddr 2 (.t 1)⟩,
    ⟨some 26, none, .load false 1 (.t 25)⟩,
    ⟨some 27, none, .bin .geq (.t 24) (.t 26)⟩,
    ⟨some 28, none, .mov (.t 27)⟩,
    ⟨some 29, (some (28, true)), .faddr 3 (.t 1)⟩,
    ⟨some 30, (some (28, true)), .load false 1 (.t 29)⟩,
    ⟨some 31, (some (28, true)), .bin .leq (.t 30) (.c (.g (.int .i64 1099511627775)))⟩,
    ⟨some 32, none, .pick (.t 28) (.t 31) (.c (.g (.bool false)))⟩,
    ⟨some 33, none, .mov (.t 32)⟩,
    ⟨some 34, (some (33, true)), .faddr 4 (.t 1)⟩,
    ⟨some 35, (some (33, true)), .load false 1 (.t 34)⟩,
    ⟨some 36, (some (33, true)), .bin .geq (.t 35) (.c (.g (.int .i64 1)))⟩,
    ⟨some 37, none, .pick (.t 33) (.t 36) (.c (.g (.bool false)))⟩,
    ⟨some 38, none, .mov (.t 37)⟩,
    ⟨some 39, (some (38, true)), .faddr 4 (.t 1)⟩,
    ⟨some 40, (some (38, true)), .load false 1 (.t 39)⟩,
    ⟨some 41, (some (38, true)), .faddr 3 (.t 1)⟩,
    ⟨some 42, (some (38, true)), .load false 1 (.t 41)⟩,
    ⟨some 43, (some (38, true)), .faddr 2 (.t 1)⟩,
    ⟨some 44, (some (38, true)), .load false 1 (.t 43)⟩,
    ⟨some 45, (some (38, true)), .bin .sub (.t 42) (.t 44)⟩,
    ⟨some 46, (some (38, true)), .bin .add (.t 45) (.c (.g (.int .i64 1)))⟩,
    ⟨some 47, (some (38, true)), .bin .leq (.t 40) (.t 46)⟩,
    ⟨some 48, none, .pick (.t 38) (.t 47) (.c (.g (.bool false)))⟩,
    ⟨some 49, none, .mov (.t 48)⟩,
    ⟨some 50, (some (49, true)), .faddr 5 (.t 1)⟩,
    ⟨some 51, (some (49, true)), .load false 1 (.t 50)⟩,
    ⟨some 52, (some (49, true)), .bin .geq (.t 51) (.c (.g (.int .i64 0)))⟩,
    ⟨some 53, none, .pick (.t 49) (.t 52) (.c (.g (.bool false)))⟩,
    ⟨some 54, none, .mov (.t 53)⟩,
    ⟨some 55, (some (54, true)), .faddr 5 (.t 1)⟩,
    ⟨some 56, (some (54, true)), .load false 1 (.t 55)⟩,
    ⟨some 57, (some (54, true)), .bin .leq (.t 56) (.c (.g (.int .i64 1099511627775)))⟩,
    ⟨some 58, none, .pick (.t 54) (.t 57) (.c (.g (.bool false)))⟩,
    ⟨some 2, none, .mov (.t 58)⟩]) <|
 .ret⟩
def h97 : List (List Nat) := [[1], [1, 22], [1], [2], [2]]
theorem c97 : cFunc Try.prog 97 false h97 = some F97 := by kernel_rfl

def L98_0 : IC :=
 .seq (.seq (.reg [0, 1, 4, 6, 10] [⟨some 7, none, .mov (.t 6)⟩,
     ⟨some 8, none, .mov (.t 0)⟩,
     ⟨some 9, none, .len (.t 8)⟩,
     ⟨some 10, none, .bin .lss (.t 7) (.t 9)⟩]) <|
  .cond [0, 1, 4, 6] (.t 10)
   (.skip)
   (.exit 0)) <|
 .seq (.block [0, 1, 4, 6] 1 <|
  .seq (.reg [0, 1, 4, 6, 19] [⟨some 13, none, .mov (.t 0)⟩,
     ⟨some 14, none, .mov (.t 6)⟩,
     ⟨some 15, none, .iaddr 6 (.t 13) (.t 14)⟩,
     ⟨some 16, none, .faddr 0 (.t 15)⟩,
     ⟨some 17, none, .load false 1 (.t 16)⟩,
     ⟨some 18, none, .mov (.t 1)⟩,
     ⟨some 19, none, .bin .eql (.t 17) (.t 18)⟩]) <|
  .cond [0, 1, 4, 6] (.t 19)
   (.seq (.reg [4, 5] [⟨some 20, none, .mov (.t 0)⟩,
       ⟨some 21, none, .mov (.t 6)⟩,
       ⟨some 22, none, .iaddr 6 (.t 20) (.t 21)⟩,
       ⟨some 23, none, .load true 6 (.t 22)⟩,
       ⟨none, none, .store 6 (.t 4) (.t 23)⟩,
       ⟨some 5, none, .mov (.c (.g (.bool true)))⟩]) <|
    .ret)
   (.skip)) <|
 .reg [0, 1, 4, 6] [⟨some 11, none, .mov (.t 6)⟩,
   ⟨some 12, none, .bin .add (.t 11) (.c (.g (.int .i64 1)))⟩,
   ⟨some 6, none, .mov (.t 12)⟩]
def F98 : IFunc := ⟨2, 25, [.cell 4 true 6, .tmp 5], false,
 .seq (.reg [0, 1, 4] [⟨some 4, none, .alloc [.z (.str []), .z (.str []), .z (.int .i64 0), .z (.int .i64 0), .z (.int .i64 0), .z (.int .i64 0)]⟩,
    ⟨some 5, none, .mov (.c (.g (.bool false)))⟩]) <|
 .seq (.seq (.reg [0, 1, 4, 6] [⟨some 6, none, .mov (.c (.g (.int .i64 0)))⟩]) <|
  .block [4] 0 <|
  .loop [0, 1, 4, 6] [] L98_0) <|
 .seq (.reg [4, 5] [⟨some 24, none, .build [.g (.str []), .g (.str []), .g (.int .i64 0), .g (.int .i64 0), .g (.int .i64 0), .g (.int .i64 0)] []⟩,
    ⟨none, none, .store 6 (.t 4) (.t 24)⟩,
    ⟨some 5, none, .mov (.c (.g (.bool false)))⟩]) <|
 .ret⟩
def h98 : List (List Nat) := [[0, 1, 4], [0, 1, 4, 6], [4], [0, 1, 4, 6], [0, 1, 4, 6, 10], [0, 1, 4, 6], [0, 1, 4, 6], [0, 1, 4, 6, 19], [0, 1, 4, 6], [4, 5], [0, 1, 4, 6], [4, 5]]
theorem c98 : cFunc Try.prog 98 false h98 = some F98 := by kernel_rfl

def F99 : IFunc := ⟨2, 18, [.tmp 4], false,
 .seq (.reg [0, 1] [⟨some 4, none, .mov (.c (.g (.bool false)))⟩]) <|
 .seq (.reg [4] [⟨some 5, none, .mov (.t 0)⟩,
    ⟨some 6, none, .lenS (.t 5)⟩,
    ⟨some 7, none, .mov (.t 1)⟩,
    ⟨some 8, none, .lenS (.t 7)⟩,
    ⟨some 9, none, .bin .geq (.t 6) (.t 8)⟩,
    ⟨some 10, none, .mov (.t 9)⟩,
    ⟨some 11, (some (10, true)), .mov (.t 0)⟩,
    ⟨some 12, (some (10, true)), .mov (.t 1)⟩,
    ⟨some 13, (some (10, true)), .lenS (.t 12)⟩,
    ⟨some 14, (some (10, true)), .slcS (.t 11) none (some (.t 13))⟩,
    ⟨some 15, (some (10, true)), .mov (.t 1)⟩,
    ⟨some 16, (some (10, true)), .bin .eql (.t 14) (.t 15)⟩,
    ⟨some 17, none, .pick (.t 10) (.t 16) (.c (.g (.bool false)))⟩,
    ⟨some 4, none, .mov (.t 17)⟩]) <|
 .ret⟩
def h99 : List (List Nat) := [[0, 1], [4]]
theorem c99 : cFunc Try.prog 99 false h99 = some F99 := by kernel_rfl

def L100_0 : IC :=
 .seq (.reg [0, 1, 7, 8, 9] [⟨some 9, none, .bin .lss (.t 8) (.t 7)⟩]) <|
 .seq (.cond [0, 1, 7, 8] (.t 9)
   (.skip)
   (.exit 0)) <|
 .seq (.block [0, 1, 7, 8] 1 <|
  .seq (.reg [0, 1, 5, 7, 8] [⟨some 10, none, .mov (.t 8)⟩,
     ⟨some 5, none, .mov (.t 10)⟩]) <|
  .seq (.reg [0, 1, 5, 7, 8, 16] [⟨some 11, none, .mov (.t 1)⟩,
     ⟨some 12, none, .mov (.t 0)⟩,
     ⟨some 13, none, .mov (.t 5)⟩,
     ⟨some 14, none, .iaddr 6 (.t 12) (.t 13)⟩,
     ⟨some 15, none, .load true 6 (.t 14)⟩,
     ⟨some 16, none, .call (.t 11) [(.t 15)]⟩]) <|
  .cond [0, 1, 7, 8] (.t 16)
   (.seq (.reg [4] [⟨some 17, none, .mov (.t 5)⟩,
       ⟨some 4, none, .mov (.t 17)⟩]) <|
    .ret)
   (.skip)) <|
 .reg [0, 1, 7, 8] [⟨some 18, none, .bin .add (.t 8) (.c (.g (.int .i64 1)))⟩,
   ⟨some 8, none, .mov (.t 18)⟩]
def F100 : IFunc := ⟨2, 19, [.tmp 4], false,
 .seq (.reg [0, 1] [⟨some 4, none, .mov (.c (.g (.int .i64 0)))⟩]) <|
 .seq (.seq (.reg [0, 1, 7, 8] [⟨some 6, none, .mov (.t 0)⟩,
     ⟨some 7, none, .len (.t 6)⟩,
     ⟨some 8, none, .mov (.c (.g (.int .i64 0)))⟩]) <|
  .block [] 0 <|
  .loop [0, 1, 7, 8] [] L100_0) <|
 .seq (.reg [4] [⟨some 4, none, .mov (.c (.g (.int .i64 (-1))))⟩]) <|
 .ret⟩
def h100 : List (List Nat) := [[0, 1], [0, 1, 7, 8], [], [0, 1, 7, 8], [0, 1, 7, 8, 9], [0, 1, 7, 8], [0, 1, 7, 8], [0, 1, 5, 7, 8], [0, 1, 5, 7, 8, 16], [0, 1, 7, 8], [4], [0, 1, 7, 8], [4]]
theorem c100 : cFunc Try.prog 100 false h100 = some F100 := by kernel_rfl

def F101 : IFunc := ⟨1, 4, [.tmp 2], true,
 .seq (.reg [1] [⟨some 1, none, .box (.t 0)⟩,
    ⟨some 2, none, .mov (.c (.g (.nfn)))⟩]) <|
 .seq (.reg [2] [⟨some 3, none, .mkfn 119 [(.t 1)]⟩,
    ⟨some 2, none, .mov (.t 3)⟩]) <|
 .ret⟩
def h101 : List (List Nat) := [[1], [2]]
theorem c101 : cFunc Try.prog 101 true h101 = some F101 := by kernel_rfl

def L102_0 : IC :=
 .seq (.reg [0, 3, 9, 10, 11, 12] [⟨some 12, none, .bin .lss (.t 11) (.t 10)⟩]) <|
 .seq (.cond [0, 3, 9, 10, 11] (.t 12)
   (.skip)
   (.exit 0)) <|
 .seq (.block [0, 3, 9, 10, 11] 1 <|
  .seq (.reg [0, 3, 5, 9, 10, 11] [⟨some 13, none, .iaddr 1 (.t 9) (.t 11)⟩,
     ⟨some 14, none, .load false 1 (.t 13)⟩,
     ⟨some 5, none, .mov (.t 14)⟩]) <|
  .seq (.reg [0, 3, 9, 10, 11] [⟨some 15, none, .mov (.t 3)⟩,
     ⟨some 16, none, .mov (.t 5)⟩,
     ⟨some 17, none, .len (.t 16)⟩,
     ⟨some 18, none, .bin .add (.t 15) (.t 17)⟩,
     ⟨some 3, none, .mov (.t 18)⟩]) <|
  .seq (.reg [0, 3, 9, 10, 11, 20] [⟨some 19, none, .mov (.t 3)⟩,
     ⟨some 20, none, .bin .lss (.t 19) (.c (.g (.int .i64 0)))⟩]) <|
  .cond [0, 3, 9, 10, 11] (.t 20)
   (.reg [0, 3, 9, 10, 11] [⟨some 21, none, .mkif 9 (.c (.g (.str [108, 101, 110, 32, 111, 117, 116, 32, 111, 102, 32, 114, 97, 110, 103, 101])))⟩,
      ⟨none, none, .row 0 []⟩])
   (.skip)) <|
 .reg [0, 3, 9, 10, 11] [⟨some 22, none, .bin .add (.t 11) (.c (.g (.int .i64 1)))⟩,
   ⟨some 11, none, .mov (.t 22)⟩]
def L102_1 : IC :=
 .seq (.reg [6, 25, 26, 27, 28] [⟨some 28, none, .bin .lss (.t 27) (.t 26)⟩]) <|
 .seq (.cond [6, 25, 26, 27] (.t 28)
   (.skip)
   (.exit 2)) <|
 .seq (.block [6, 25, 26, 27] 3 <|
  .seq (.reg [6, 8, 25, 26, 27] [⟨some 29, none, .iaddr 1 (.t 25) (.t 27)⟩,
     ⟨some 30, none, .load false 1 (.t 29)⟩,
     ⟨some 8, none, .mov (.t 30)⟩]) <|
  .reg [6, 25, 26, 27] [⟨some 31, none, .mov (.t 6)⟩,
    ⟨some 32, none, .mov (.t 8)⟩,
    ⟨some 33, none, .app 6 64 (.t 31) (.t 32)⟩,
    ⟨some 6, none, .mov (.t 33)⟩]) <|
 .reg [6, 25, 26, 27] [⟨some 34, none, .bin .add (.t 27) (.c (.g (.int .i64 1)))⟩,
   ⟨some 27, none, .mov (.t 34)⟩]
def F102 : IFunc := ⟨1, 36, [.tmp 2], false,
 .seq (.reg [0] [⟨some 2, none, .nres 6⟩]) <|
 .seq (.reg [0, 3] [⟨some 3, none, .mov (.c (.g (.int .i64 0)))⟩]) <|
 .seq (.seq (.reg [0, 3, 9, 10, 11] [⟨some 9, none, .mov (.t 0)⟩,
     ⟨some 10, none, .len (.t 9)⟩,
     ⟨some 11, none, .mov (.c (.g (.int .i64 0)))⟩]) <|
  .block [0, 3] 0 <|
  .loop [0, 3, 9, 10, 11] [] L102_0) <|
 .seq (.reg [0, 6] [⟨some 23, none, .mov (.t 3)⟩,
    ⟨some 24, none, .call (.c (.g (.fn 120))) [(.c (.g (.nsl))), (.t 23)]⟩,
    ⟨some 6, none, .mov (.t 24)⟩]) <|
 .seq (.seq (.reg [6, 25, 26, 27] [⟨some 25, none, .mov (.t 0)⟩,
     ⟨some 26, none, .len (.t 25)⟩,
     ⟨some 27, none, .mov (.c (.g (.int .i64 0)))⟩]) <|
  .block [6] 2 <|
  .loop [6, 25, 26, 27] [] L102_1) <|
 .seq (.reg [2] [⟨some 35, none, .mov (.t 6)⟩,
    ⟨some 2, none, .mov (.t 35)⟩]) <|
 .ret⟩
def h102 : List (List Nat) := [[0], [0, 3], [0, 3, 9, 10, 11], [0, 3], [0, 3, 9, 10, 11], [0, 3, 9, 10, 11, 12], [0, 3, 9, 10, 11], [0, 3, 9, 10, 11], [0, 3, 5, 9, 10, 11], [0, 3, 9, 10, 11], [0, 3, 9, 10, 11, 20], [0, 3, 9, 10, 11], [0, 3, 9, 10, 11], [0, 3, 9, 10, 11], [0, 6], [6, 25, 26, 27], [6], [6, 25, 26, 27], [6, 25, 26, 27, 28], [6, 25, 26, 27], [6, 25, 26, 27], [6, 8, 25, 26, 27], [6, 25, 26, 27], [6, 25, 26, 27], [2]]
theorem c102 : cFunc Try.prog 102 false h102 = some F102 := by kernel_rfl

def L103_0 : IC :=
 .seq (.reg [2, 18, 19, 20, 21] [⟨some 21, none, .bin .lss (.t 20) (.t 19)⟩]) <|
 .seq (.cond [2, 18, 19, 20] (.t 21)
   (.skip)
   (.exit 0)) <|
 .seq (.block [2, 18, 19, 20] 1 <|
  .seq (.reg [2, 8, 18, 19, 20] [⟨some 22, none, .iaddr 1 (.t 18) (.t 20)⟩,
     ⟨some 23, none, .load false 1 (.t 22)⟩,
     ⟨some 8, none, .mov (.t 23)⟩]) <|
  .seq (.reg [2, 18, 19, 20, 27] [⟨some 24, none, .mov (.t 2)⟩,
     ⟨some 25, none, .mov (.t 8)⟩,
     ⟨some 26, none, .call (.t 24) [(.t 25)]⟩,
     ⟨some 27, none, .un .not (.t 26)⟩]) <|
  .cond [2, 18, 19, 20] (.t 27)
   (.seq (.reg [6] [⟨some 6, none, .mov (.c (.g (.bool false)))⟩]) <|
    .ret)
   (.skip)) <|
 .reg [2, 18, 19, 20] [⟨some 28, none, .bin .add (.t 20) (.c (.g (.int .i64 1)))⟩,
   ⟨some 20, none, .mov (.t 28)⟩]
def F103 : IFunc := ⟨3, 29, [.tmp 6], false,
 .seq (.reg [0, 1, 2] [⟨some 6, none, .mov (.c (.g (.bool false)))⟩]) <|
 .seq (.seq (.reg [0, 2, 16] [⟨some 9, none, .mov (.t 0)⟩,
     ⟨some 10, none, .bin .eql (.t 9) (.c (.g (.str [])))⟩,
     ⟨some 11, none, .mov (.t 10)⟩,
     ⟨some 12, (some (11, false)), .mov (.t 0)⟩,
     ⟨some 13, (some (11, false)), .lenS (.t 12)⟩,
     ⟨some 14, (some (11, false)), .mov (.t 1)⟩,
     ⟨some 15, (some (11, false)), .bin .gtr (.t 13) (.t 14)⟩,
     ⟨some 16, none, .pick (.t 11) (.c (.g (.bool true))) (.t 15)⟩]) <|
  .cond [0, 2] (.t 16)
   (.seq (.reg [6] [⟨some 6, none, .mov (.c (.g (.bool false)))⟩]) <|
    .ret)
   (.skip)) <|
 .seq (.seq (.reg [2, 18, 19, 20] [⟨some 17, none, .mov (.t 0)⟩,
     ⟨some 18, none, .convSB (.t 17)⟩,
     ⟨some 19, none, .len (.t 18)⟩,
     ⟨some 20, none, .mov (.c (.g (.int .i64 0)))⟩]) <|
  .block [] 0 <|
  .loop [2, 18, 19, 20] [] L103_0) <|
 .seq (.reg [6] [⟨some 6, none, .mov (.c (.g (.bool true)))⟩]) <|
 .ret⟩
def h103 : List (List Nat) := [[0, 1, 2], [0, 2, 16], [0, 2], [6], [2, 18, 19, 20], [], [2, 18, 19, 20], [2, 18, 19, 20, 21], [2, 18, 19, 20], [2, 18, 19, 20], [2, 8, 18, 19, 20], [2, 18, 19, 20, 27], [2, 18, 19, 20], [6], [2, 18, 19, 20], [6]]
theorem c103 : cFunc Try.prog 103 false h103 = some F103 := by kernel_rfl

def F104 : IFunc := ⟨1, 9, [.tmp 2], false,
 .seq (.reg [0] [⟨some 2, none, .mov (.c (.g (.bool false)))⟩]) <|
 .seq (.reg [2] [⟨some 3, none, .mov (.t 0)⟩,
    ⟨some 4, none, .bin .gtr (.t 3) (.c (.g (.int .u8 32)))⟩,
    ⟨some 5, none, .mov (.t 4)⟩,
    ⟨some 6, (some (5, true)), .mov (.t 0)⟩,
    ⟨some 7, (some (5, true)), .bin .leq (.t 6) (.c (.g (.int .u8 126)))⟩,
    ⟨some 8, none, .pick (.t 5) (.t 7) (.c (.g (.bool false)))⟩,
    ⟨some 2, none, .mov (.t 8)⟩]) <|
 .ret⟩
def h104 : List (List Nat) := [[0], [2]]
theorem c104 : cFunc Try.prog 104 false h104 = some F104 := by kernel_rfl

def F105 : IFunc := ⟨2, 27, [.tmp 4], true,
 .seq (.reg [0, 1] [⟨some 4, none, .nres 2⟩]) <|
 .seq (.seq (.reg [0, 1, 6] [⟨some 5, none, .mov (.t 1)⟩,
     ⟨some 6, none, .bin .lss (.t 5) (.c (.g (.int .i64 0)))⟩]) <|
  .cond [0, 1] (.t 6)
   (.reg [0, 1] [⟨some 7, none, .mkif 9 (.c (.g (.str [99, 97, 110, 110, 111, 116, 32, 98, 101, 32, 110, 101, 103, 97, 116, 105, 118, 101])))⟩,
      ⟨none, none, .row 0 []⟩])
   (.skip)) <|
 .seq (.seq (.reg [0, 1] [⟨some 8, none, .mov (.t 1)⟩,
     ⟨some 9, none, .mov (.t 0)⟩,
     ⟨some 10, none, .cap (.t 9)⟩,
     ⟨some 11, none, .mov (.t 0)⟩,
     ⟨some 12, none, .len (.t 11)⟩,
     ⟨some 13, none, .bin .sub (.t 10) (.t 12)⟩,
     ⟨some 14, none, .bin .sub (.t 8) (.t 13)⟩,
     ⟨some 1, none, .mov (.t 14)⟩]) <|
  .seq (.reg [0, 1, 16] [⟨some 15, none, .mov (.t 1)⟩,
     ⟨some 16, none, .bin .gtr (.t 15) (.c (.g (.int .i64 0)))⟩]) <|
  .cond [0] (.t 16)
   (.reg [0] [⟨some 17, none, .mov (.t 0)⟩,
      ⟨some 18, none, .mov (.t 0)⟩,
      ⟨some 19, none, .cap (.t 18)⟩,
      ⟨some 20, none, .slc 2 (.t 17) none (some (.t 19))⟩,
      ⟨some 21, none, .mov (.t 1)⟩,
      ⟨some 22, none, .appZ 2 16 [.int .i64 0, .int .i64 0] (.t 20) (.t 21)⟩,
      ⟨some 23, none, .mov (.t 0)⟩,
      ⟨some 24, none, .len (.t 23)⟩,
      ⟨some 25, none, .slc 2 (.t 22) none (some (.t 24))⟩,
      ⟨some 0, none, .mov (.t 25)⟩])
   (.skip)) <|
 .seq (.reg [4] [⟨some 26, none, .mov (.t 0)⟩,
    ⟨some 4, none, .mov (.t 26)⟩]) <|
 .ret⟩
def h105 : List (List Nat) := [[0, 1], [0, 1, 6], [0, 1], [0, 1], [0, 1], [0, 1, 16], [0], [0], [4]]
theorem c105 : cFunc Try.prog 105 true h105 = some F105 := by kernel_rfl

def L118_0 : IC :=
 .seq (.seq (.reg [0, 3, 15] [⟨some 12, none, .mov (.t 3)⟩,
     ⟨some 13, none, .mov (.t 0)⟩,
     ⟨some 14, none, .lenS (.t 13)⟩,
     ⟨some 15, none, .bin .lss (.t 12) (.t 14)⟩]) <|
  .cond [0, 3] (.t 15)
   (.skip)
   (.exit 0)) <|
 .seq (.block [0, 3] 1 <|
  .seq (.reg [0, 3, 27] [⟨some 18, none, .mov (.t 0)⟩,
     ⟨some 19, none, .mov (.t 3)⟩,
     ⟨some 20, none, .index (.t 18) (.t 19)⟩,
     ⟨some 21, none, .bin .lss (.t 20) (.c (.g (.int .u8 33)))⟩,
     ⟨some 22, none, .mov (.t 21)⟩,
     ⟨some 23, (some (22, false)), .mov (.t 0)⟩,
     ⟨some 24, (some (22, false)), .mov (.t 3)⟩,
     ⟨some 25, (some (22, false)), .index (.t 23) (.t 24)⟩,
     ⟨some 26, (some (22, false)), .bin .gtr (.t 25) (.c (.g (.int .u8 126)))⟩,
     ⟨some 27, none, .pick (.t 22) (.c (.g (.bool true))) (.t 26)⟩]) <|
  .cond [0, 3] (.t 27)
   (.seq (.reg [2] [⟨some 2, none, .mov (.c (.g (.bool false)))⟩]) <|
    .ret)
   (.skip)) <|
 .reg [0, 3] [⟨some 16, none, .mov (.t 3)⟩,
   ⟨some 17, none, .bin .add (.t 16) (.c (.g (.int .i64 1)))⟩,
   ⟨some 3, none, .mov (.t 17)⟩]
def F118 : IFunc := ⟨1, 28, [.tmp 2], false,
 .seq (.reg [0] [⟨some 2, none, .mov (.c (.g (.bool false)))⟩]) <|
 .seq (.seq (.reg [0, 11] [⟨some 4, none, .mov (.t 0)⟩,
     ⟨some 5, none, .lenS (.t 4)⟩,
     ⟨some 6, none, .bin .lss (.t 5) (.c (.g (.int .i64 1)))⟩,
     ⟨some 7, none, .mov (.t 6)⟩,
     ⟨some 8, (some (7, false)), .mov (.t 0)⟩,
     ⟨some 9, (some (7, false)), .lenS (.t 8)⟩,
     ⟨some 10, (some (7, false)), .bin .gtr (.t 9) (.c (.g (.int .i64 40)))⟩,
     ⟨some 11, none, .pick (.t 7) (.c (.g (.bool true))) (.t 10)⟩]) <|
  .cond [0] (.t 11)
   (.seq (.reg [2] [⟨some 2, none, .mov (.c (.g (.bool false)))⟩]) <|
    .ret)
   (.skip)) <|
 .seq (.seq (.reg [0, 3] [⟨some 3, none, .mov (.c (.g (.int .i64 0)))⟩]) <|
  .block [] 0 <|
  .loop [0, 3] [] L118_0) <|
 .seq (.reg [2] [⟨some 2, none, .mov (.c (.g (.bool true)))⟩]) <|
 .ret⟩
def h118 : List (List Nat) := [[0], [0, 11], [0], [2], [0, 3], [], [0, 3], [0, 3, 15], [0, 3], [0, 3], [0, 3, 27], [0, 3], [2], [0, 3], [2]]
theorem c118 : cFunc Try.prog 118 false h118 = some F118 := by kernel_rfl

def F119 : IFunc := ⟨2, 8, [.tmp 3], false,
 .seq (.reg [1, 2] [⟨some 2, none, .box (.t 0)⟩,
    ⟨some 3, none, .mov (.c (.g (.bool false)))⟩]) <|
 .seq (.reg [3] [⟨some 4, none, .faddr 0 (.t 2)⟩,
    ⟨some 5, none, .load false 1 (.t 4)⟩,
    ⟨some 6, none, .load false 1 (.t 1)⟩,
    ⟨some 7, none, .bin .eql (.t 5) (.t 6)⟩,
    ⟨some 3, none, .mov (.t 7)⟩]) <|
 .ret⟩
def h119 : List (List Nat) := [[1, 2], [3]]
theorem c119 : cFunc Try.prog 119 false h119 = some F119 := by kernel_rfl

def F120 : IFunc := ⟨2, 27, [.tmp 4], true,
 .seq (.reg [0, 1] [⟨some 4, none, .nres 6⟩]) <|
 .seq (.seq (.reg [0, 1, 6] [⟨some 5, none, .mov (.t 1)⟩,
     ⟨some 6, none, .bin .lss (.t 5) (.c (.g (.int .i64 0)))⟩]) <|
  .cond [0, 1] (.t 6)
   (.reg [0, 1] [⟨some 7, none, .mkif 9 (.c (.g (.str [99, 97, 110, 110, 111, 116, 32, 98, 101, 32, 110, 101, 103, 97, 116, 105, 118, 101])))⟩,
      ⟨none, none, .row 0 []⟩])
   (.skip)) <|
 .seq (.seq (.reg [0, 1] [⟨some 8, none, .mov (.t 1)⟩,
     ⟨some 9, none, .mov (.t 0)⟩,
     ⟨some 10, none, .cap (.t 9)⟩,
     ⟨some 11, none, .mov (.t 0)⟩,
     ⟨some 12, none, .len (.t 11)⟩,
     ⟨some 13, none, .bin .sub (.t 10) (.t 12)⟩,
     ⟨some 14, none, .bin .sub (.t 8) (.t 13)⟩,
     ⟨some 1, none, .mov (.t 14)⟩]) <|
  .seq (.reg [0, 1, 16] [⟨some 15, none, .mov (.t 1)⟩,
     ⟨some 16, none, .bin .gtr (.t 15) (.c (.g (.int .i64 0)))⟩]) <|
  .cond [0] (.t 16)
   (.reg [0] [⟨some 17, none, .mov (.t 0)⟩,
      ⟨some 18, none, .mov (.t 0)⟩,
      ⟨some 19, none, .cap (.t 18)⟩,
      ⟨some 20, none, .slc 6 (.t 17) none (some (.t 19))⟩,
      ⟨some 21, none, .mov (.t 1)⟩,
      ⟨some 22, none, .appZ 6 64 [.str [], .str [], .int .i64 0, .int .i64 0, .int .i64 0, .int .i64 0] (.t 20) (.t 21)⟩,
      ⟨some 23, none, .mov (.t 0)⟩,
      ⟨some 24, none, .len (.t 23)⟩,
      ⟨some 25, none, .slc 6 (.t 22) none (some (.t 24))⟩,
      ⟨some 0, none, .mov (.t 25)⟩])
   (.skip)) <|
 .seq (.reg [4] [⟨some 26, none, .mov (.t 0)⟩,
    ⟨some 4, none, .mov (.t 26)⟩]) <|
 .ret⟩
def h120 : List (List Nat) := [[0, 1], [0, 1, 6], [0, 1], [0, 1], [0, 1], [0, 1, 16], [0], [0], [4]]
theorem c120 : cFunc Try.prog 120 true h120 = some F120 := by kernel_rfl

end
end Go.Proofs.Ytibnbcljmfigfaa
