/- The compiled functions of the seat, part IRe. No conditions. -/
import Derived.Test.YtibnbcljmfigfaaAMJ4
import Derived.Test.YtibnbcljmfigfaaProg
import Derived.KernelRfl
namespace Go.Proofs.Ytibnbcljmfigfaa
open Go Go.AM Go.Proofs
noncomputable section
def F3 : IFunc := ⟨3, 56, [.tmp 6], false,
 .seq (.reg [1, 3, 5] [⟨some 3, none, .box (.t 0)⟩,
    ⟨some 5, none, .box (.t 2)⟩,
    ⟨some 6, none, .mov (.c (.g (.bool false)))⟩]) <|
 .seq (.seq (.reg [1, 3, 5, 16] [⟨some 13, none, .load true 4 (.t 3)⟩,
     ⟨some 14, none, .mov (.t 1)⟩,
     ⟨some 15, none, .call (.c (.g (.fn 14))) [(.t 13), (.t 14)]⟩,
     ⟨some 16, none, .un .not (.t 15)⟩]) <|
  .cond [1, 3, 5] (.t 16)
   (.seq (.reg [6] [⟨some 17, none, .call (.c (.g (.fn 15))) []⟩,
       ⟨some 6, none, .mov (.t 17)⟩]) <|
    .ret)
   (.skip)) <|
 .seq (.reg [1, 3, 5, 7, 8, 9] [⟨some 19, none, .load true 4 (.t 3)⟩,
    ⟨some 20, none, .mov (.t 1)⟩,
    ⟨some 21, none, .iaddrA 2 1 (.t 5) (.c (.g (.int .i64 0)))⟩,
    ⟨some 22, none, .load false 1 (.t 21)⟩,
    ⟨some 23, none, .iaddrA 2 1 (.t 5) (.c (.g (.int .i64 1)))⟩,
    ⟨some 24, none, .load false 1 (.t 23)⟩,
    ⟨some 25, none, .call (.c (.g (.fn 16))) [(.t 19), (.t 20), (.t 22), (.t 24)]⟩,
    ⟨some 18, none, .mov (.t 25)⟩,
    ⟨some 26, none, .ext 0 (.t 18)⟩,
    ⟨some 27, none, .ext 1 (.t 18)⟩,
    ⟨some 28, none, .ext 2 (.t 18)⟩,
    ⟨some 7, none, .mov (.t 26)⟩,
    ⟨some 8, none, .mov (.t 27)⟩,
    ⟨some 9, none, .mov (.t 28)⟩]) <|
 .seq (.reg [7, 8, 9, 10, 11, 12] [⟨some 30, none, .load true 4 (.t 3)⟩,
    ⟨some 31, none, .mov (.t 1)⟩,
    ⟨some 32, none, .iaddrA 2 1 (.t 5) (.c (.g (.int .i64 0)))⟩,
    ⟨some 33, none, .load false 1 (.t 32)⟩,
    ⟨some 34, none, .iaddrA 2 1 (.t 5) (.c (.g (.int .i64 1)))⟩,
    ⟨some 35, none, .load false 1 (.t 34)⟩,
    ⟨some 36, none, .call (.c (.g (.fn 17))) [(.t 30), (.t 31), (.t 33), (.t 35)]⟩,
    ⟨some 29, none, .mov (.t 36)⟩,
    ⟨some 37, none, .ext 0 (.t 29)⟩,
    ⟨some 38, none, .ext 1 (.t 29)⟩,
    ⟨some 39, none, .ext 2 (.t 29)⟩,
    ⟨some 10, none, .mov (.t 37)⟩,
    ⟨some 11, none, .mov (.t 38)⟩,
    ⟨some 12, none, .mov (.t 39)⟩]) <|
 .seq (.reg [6] [⟨some 40, none, .mov (.t 7)⟩,
    ⟨some 41, none, .mov (.t 10)⟩,
    ⟨some 42, none, .call (.c (.g (.fn 18))) [(.t 40), (.t 41)]⟩,
    ⟨some 43, none, .mov (.t 42)⟩,
    ⟨some 44, (some (43, true)), .mov (.t 8)⟩,
    ⟨some 45, (some (43, true)), .mov (.t 11)⟩,
    ⟨some 46, (some (43, true)), .bin .eql (.t 44) (.t 45)⟩,
    ⟨some 47, none, .pick (.t 43) (.t 46) (.c (.g (.bool false)))⟩,
    ⟨some 48, none, .mov (.t 47)⟩,
    ⟨some 49, (some (48, true)), .mov (.t 9)⟩,
    ⟨some 50, (some (48, true)), .mov (.t 12)⟩,
    ⟨some 51, (some (48, true)), .bin .eql (.t 49) (.t 50)⟩,
    ⟨some 52, none, .pick (.t 48) (.t 51) (.c (.g (.bool false)))⟩,
    ⟨some 53, none, .mov (.t 52)⟩,
    ⟨some 54, (some (53, true)), .call (.c (.g (.fn 15))) []⟩,
    ⟨some 55, none, .pick (.t 53) (.t 54) (.c (.g (.bool false)))⟩,
    ⟨some 6, none, .mov (.t 55)⟩]) <|
 .ret⟩
def h3 : List (List Nat) := [[1, 3, 5], [1, 3, 5, 16], [1, 3, 5], [6], [1, 3, 5, 7, 8, 9], [7, 8, 9, 10, 11, 12], [6]]
theorem c3 : cFunc Try.prog 3 false h3 = some F3 := by kernel_rfl

def F4 : IFunc := ⟨3, 70, [.tmp 6], false,
 .seq (.reg [1, 3, 5] [⟨some 3, none, .box (.t 0)⟩,
    ⟨some 5, none, .box (.t 2)⟩,
    ⟨some 6, none, .mov (.c (.g (.bool false)))⟩]) <|
 .seq (.seq (.reg [1, 3, 5, 19] [⟨some 12, none, .load true 4 (.t 3)⟩,
     ⟨some 13, none, .call (.c (.g (.fn 14))) [(.t 12), (.c (.g (.str [])))]⟩,
     ⟨some 14, none, .un .not (.t 13)⟩,
     ⟨some 15, none, .mov (.t 14)⟩,
     ⟨some 16, (some (15, false)), .mov (.t 1)⟩,
     ⟨some 17, (some (15, false)), .call (.c (.g (.fn 19))) [(.t 16), (.c (.g (.int .i64 40)))]⟩,
     ⟨some 18, (some (15, false)), .un .not (.t 17)⟩,
     ⟨some 19, none, .pick (.t 15) (.c (.g (.bool true))) (.t 18)⟩]) <|
  .cond [1, 3, 5] (.t 19)
   (.seq (.reg [6] [⟨some 20, none, .call (.c (.g (.fn 15))) []⟩,
       ⟨some 6, none, .mov (.t 20)⟩]) <|
    .ret)
   (.skip)) <|
 .seq (.reg [1, 3, 5, 7] [⟨some 7, none, .mov (.c (.g (.str [])))⟩]) <|
 .seq (.seq (.reg [1, 3, 5, 7, 23] [⟨some 21, none, .mov (.t 1)⟩,
     ⟨some 22, none, .len (.t 21)⟩,
     ⟨some 23, none, .bin .gtr (.t 22) (.c (.g (.int .i64 0)))⟩]) <|
  .cond [1, 3, 5, 7] (.t 23)
   (.reg [1, 3, 5, 7] [⟨some 24, none, .mov (.t 1)⟩,
      ⟨some 25, none, .iaddr 6 (.t 24) (.c (.g (.int .i64 0)))⟩,
      ⟨some 26, none, .faddr 0 (.t 25)⟩,
      ⟨some 27, none, .load false 1 (.t 26)⟩,
      ⟨some 7, none, .mov (.t 27)⟩])
   (.skip)) <|
 .seq (.reg [1, 3, 5, 7, 8, 9] [⟨some 29, none, .load true 4 (.t 3)⟩,
    ⟨some 30, none, .mov (.t 7)⟩,
    ⟨some 31, none, .iaddrA 2 1 (.t 5) (.c (.g (.int .i64 0)))⟩,
    ⟨some 32, none, .load false 1 (.t 31)⟩,
    ⟨some 33, none, .iaddrA 2 1 (.t 5) (.c (.g (.int .i64 1)))⟩,
    ⟨some 34, none, .load false 1 (.t 33)⟩,
    ⟨some 35, none, .call (.c (.g (.fn 20))) [(.t 29), (.t 30), (.t 32), (.t 34)]⟩,
    ⟨some 28, none, .mov (.t 35)⟩,
    ⟨some 36, none, .ext 0 (.t 28)⟩,
    ⟨some 37, none, .ext 1 (.t 28)⟩,
    ⟨some 8, none, .mov (.t 36)⟩,
    ⟨some 9, none, .mov (.t 37)⟩]) <|
 .seq (.reg [1, 3, 8, 9, 10, 11] [⟨some 39, none, .load true 4 (.t 3)⟩,
    ⟨some 40, none, .mov (.t 7)⟩,
    ⟨some 41, none, .iaddrA 2 1 (.t 5) (.c (.g (.int .i64 0)))⟩,
    ⟨some 42, none, .load false 1 (.t 41)⟩,
    ⟨some 43, none, .iaddrA 2 1 (.t 5) (.c (.g (.int .i64 1)))⟩,
    ⟨some 44, none, .load false 1 (.t 43)⟩,
    ⟨some 45, none, .call (.c (.g (.fn 21))) [(.t 39), (.t 40), (.t 42), (.t 44)]⟩,
    ⟨some 38, none, .mov (.t 45)⟩,
    ⟨some 46, none, .ext 0 (.t 38)⟩,
    ⟨some 47, none, .ext 1 (.t 38)⟩,
    ⟨some 10, none, .mov (.t 46)⟩,
    ⟨some 11, none, .mov (.t 47)⟩]) <|
 .seq (.drw [6] 0 <|
  .take ⟨some 48, none, .mov (.t 8)⟩ <|
  .take ⟨some 49, none, .mov (.t 10)⟩ <|
  .one ⟨some 50, none, .call (.c (.g (.fn 18))) [(.t 48), (.t 49)]⟩ <|
  .take ⟨some 51, none, .mov (.t 50)⟩ <|
  .take ⟨some 52, (some (51, true)), .mov (.t 9)⟩ <|
  .take ⟨some 53, (some (51, true)), .mov (.t 11)⟩ <|
  .take ⟨some 54, (some (51, true)), .bin .eql (.t 52) (.t 53)⟩ <|
  .take ⟨some 55, none, .pick (.t 51) (.t 54) (.c (.g (.bool false)))⟩ <|
  .take ⟨some 56, none, .mov (.t 55)⟩ <|
  .take ⟨some 57, (some (56, true)), .mov (.t 1)⟩ <|
  .take ⟨some 58, (some (56, true)), .faddr 3 (.t 3)⟩ <|
  .take ⟨some 61, (some (56, true)), .mov (.t 1)⟩ <|
  .take ⟨some 62, (some (56, true)), .faddr 3 (.t 3)⟩ <|
  .alt ⟨some 59, (some (56, true)), .load false 1 (.t 58)⟩
  (.alt ⟨some 60, (some (56, true)), .call (.c (.g (.fn 23))) [(.t 57), (.t 59)]⟩
   (.one ⟨some 63, (some (56, true)), .load false 1 (.t 62)⟩ <|
    .one ⟨some 64, (some (56, true)), .call (.c (.g (.fn 24))) [(.t 61), (.t 63)]⟩ <|
    .one ⟨some 65, (some (56, true)), .call (.c (.g (.fn 22))) [(.t 60), (.t 64)]⟩ <|
    .take ⟨some 66, none, .pick (.t 56) (.t 65) (.c (.g (.bool false)))⟩ <|
    .take ⟨some 67, none, .mov (.t 66)⟩ <|
    .one ⟨some 68, (some (67, true)), .call (.c (.g (.fn 15))) []⟩ <|
    .take ⟨some 69, none, .pick (.t 67) (.t 68) (.c (.g (.bool false)))⟩ <|
    .free <|
    .take ⟨some 6, none, .mov (.t 69)⟩ <|
    .leaf)
   (.one ⟨some 63, (some (56, true)), .load false 1 (.t 62)⟩ <|
    .one ⟨some 60, (some (56, true)), .call (.c (.g (.fn 23))) [(.t 57), (.t 59)]⟩ <|
    .one ⟨some 64, (some (56, true)), .call (.c (.g (.fn 24))) [(.t 61), (.t 63)]⟩ <|
    .one ⟨some 65, (some (56, true)), .call (.c (.g (.fn 22))) [(.t 60), (.t 64)]⟩ <|
    .take ⟨some 66, none, .pick (.t 56) (.t 65) (.c (.g (.bool false)))⟩ <|
    .take ⟨some 67, none, .mov (.t 66)⟩ <|
    .one ⟨some 68, (some (67, true)), .call (.c (.g (.fn 15))) []⟩ <|
    .take ⟨some 69, none, .pick (.t 67) (.t 68) (.c (.g (.bool false)))⟩ <|
    .free <|
    .take ⟨some 6, none, .mov (.t 69)⟩ <|
    .leaf))
  (.one ⟨some 63, (some (56, true)), .load false 1 (.t 62)⟩ <|
   .one ⟨some 59, (some (56, true)), .load false 1 (.t 58)⟩ <|
   .one ⟨some 60, (some (56, true)), .call (.c (.g (.fn 23))) [(.t 57), (.t 59)]⟩ <|
   .one ⟨some 64, (some (56, true)), .call (.c (.g (.fn 24))) [(.t 61), (.t 63)]⟩ <|
   .one ⟨some 65, (some (56, true)), .call (.c (.g (.fn 22))) [(.t 60), (.t 64)]⟩ <|
   .take ⟨some 66, none, .pick (.t 56) (.t 65) (.c (.g (.bool false)))⟩ <|
   .take ⟨some 67, none, .mov (.t 66)⟩ <|
   .one ⟨some 68, (some (67, true)), .call (.c (.g (.fn 15))) []⟩ <|
   .take ⟨some 69, none, .pick (.t 67) (.t 68) (.c (.g (.bool false)))⟩ <|
   .free <|
   .take ⟨some 6, none, .mov (.t 69)⟩ <|
   .leaf)) <|
 .ret⟩
def h4 : List (List Nat) := [[1, 3, 5], [1, 3, 5, 19], [1, 3, 5], [6], [1, 3, 5, 7], [1, 3, 5, 7, 23], [1, 3, 5, 7], [1, 3, 5, 7], [1, 3, 5, 7, 8, 9], [1, 3, 8, 9, 10, 11], [6], []]
theorem c4 : cFunc Try.prog 4 false h4 = some F4 := by kernel_rfl

def L5_0 : IC :=
 .seq (.seq (.reg [1, 3, 5, 7, 8, 10, 11, 68] [⟨some 64, none, .mov (.t 11)⟩,
     ⟨some 65, none, .faddr 3 (.t 3)⟩,
     ⟨some 66, none, .load false 1 (.t 65)⟩,
     ⟨some 67, none, .len (.t 66)⟩,
     ⟨some 68, none, .bin .lss (.t 64) (.t 67)⟩]) <|
  .cond [1, 3, 5, 7, 8, 10, 11] (.t 68)
   (.skip)
   (.exit 0)) <|
 .seq (.block [1, 3, 5, 7, 8, 10, 11] 1 <|
  .seq (.reg [1, 3, 5, 7, 8, 10, 11, 12] [⟨some 71, none, .faddr 3 (.t 3)⟩,
     ⟨some 72, none, .load false 1 (.t 71)⟩,
     ⟨some 73, none, .mov (.t 11)⟩,
     ⟨some 74, none, .iaddr 8 (.t 72) (.t 73)⟩,
     ⟨some 75, none, .load true 8 (.t 74)⟩,
     ⟨some 12, none, .alloc [.z (.int .i64 0), .z (.bool false), .z (.str []), .z (.str []), .z (.int .i64 0), .z (.int .i64 0), .z (.int .i64 0), .z (.int .i64 0)]⟩,
     ⟨none, none, .store 8 (.t 12) (.t 75)⟩]) <|
  .seq (.reg [1, 3, 5, 7, 8, 10, 11, 12, 105] [⟨some 76, none, .faddr 0 (.t 12)⟩,
     ⟨some 77, none, .load false 1 (.t 76)⟩,
     ⟨some 78, none, .iaddrA 2 1 (.t 5) (.c (.g (.int .i64 0)))⟩,
     ⟨some 79, none, .load false 1 (.t 78)⟩,
     ⟨some 80, none, .bin .geq (.t 77) (.t 79)⟩,
     ⟨some 81, none, .mov (.t 80)⟩,
     ⟨some 82, (some (81, true)), .faddr 0 (.t 12)⟩,
     ⟨some 83, (some (81, true)), .load false 1 (.t 82)⟩,
     ⟨some 84, (some (81, true)), .mov (.t 8)⟩,
     ⟨some 85, (some (81, true)), .bin .lss (.t 83) (.t 84)⟩,
     ⟨some 86, none, .pick (.t 81) (.t 85) (.c (.g (.bool false)))⟩,
     ⟨some 87, none, .mov (.t 86)⟩,
     ⟨some 88, (some (87, true)), .faddr 2 (.t 12)⟩,
     ⟨some 89, (some (87, true)), .faddr 0 (.t 88)⟩,
     ⟨some 90, (some (87, true)), .load false 1 (.t 89)⟩,
     ⟨some 91, (some (87, true)), .lenS (.t 90)⟩,
     ⟨some 92, (some (87, true)), .mov (.t 1)⟩,
     ⟨some 93, (some (87, true)), .lenS (.t 92)⟩,
     ⟨some 94, (some (87, true)), .bin .geq (.t 91) (.t 93)⟩,
     ⟨some 95, none, .pick (.t 87) (.t 94) (.c (.g (.bool false)))⟩,
     ⟨some 96, none, .mov (.t 95)⟩,
     ⟨some 97, (some (96, true)), .faddr 2 (.t 12)⟩,
     ⟨some 98, (some (96, true)), .faddr 0 (.t 97)⟩,
     ⟨some 99, (some (96, true)), .load false 1 (.t 98)⟩,
     ⟨some 100, (some (96, true)), .mov (.t 1)⟩,
     ⟨some 101, (some (96, true)), .lenS (.t 100)⟩,
     ⟨some 102, (some (96, true)), .slcS (.t 99) none (some (.t 101))⟩,
     ⟨some 103, (some (96, true)), .mov (.t 1)⟩,
     ⟨some 104, (some (96, true)), .bin .eql (.t 102) (.t 103)⟩,
     ⟨some 105, none, .pick (.t 96) (.t 104) (.c (.g (.bool false)))⟩]) <|
  .cond [1, 3, 5, 7, 8, 10, 11] (.t 105)
   (.reg [1, 3, 5, 7, 8, 10, 11] [⟨some 106, none, .mov (.t 10)⟩,
      ⟨some 107, none, .load true 8 (.t 12)⟩,
      ⟨some 108, none, .bslice 8 1 [.int .i64 0, .bool false, .str [], .str [], .int .i64 0, .int .i64 0, .int .i64 0, .int .i64 0] [(0, 8, (.t 107))]⟩,
      ⟨some 109, none, .app 8 80 (.t 106) (.t 108)⟩,
      ⟨some 10, none, .mov (.t 109)⟩])
   (.skip)) <|
 .reg [1, 3, 5, 7, 8, 10, 11] [⟨some 69, none, .mov (.t 11)⟩,
   ⟨some 70, none, .bin .add (.t 69) (.c (.g (.int .i64 1)))⟩,
   ⟨some 11, none, .mov (.t 70)⟩]
def F5 : IFunc := ⟨3, 151, [.tmp 6], false,
 .seq (.reg [1, 3, 5] [⟨some 3, none, .box (.t 0)⟩,
    ⟨some 5, none, .box (.t 2)⟩,
    ⟨some 6, none, .mov (.c (.g (.bool false)))⟩]) <|
 .seq (.seq (.reg [1, 3, 5, 20] [⟨some 17, none, .load true 4 (.t 3)⟩,
     ⟨some 18, none, .mov (.t 1)⟩,
     ⟨some 19, none, .call (.c (.g (.fn 14))) [(.t 17), (.t 18)]⟩,
     ⟨some 20, none, .un .not (.t 19)⟩]) <|
  .cond [1, 3, 5] (.t 20)
   (.seq (.reg [6] [⟨some 21, none, .call (.c (.g (.fn 15))) []⟩,
       ⟨some 6, none, .mov (.t 21)⟩]) <|
    .ret)
   (.skip)) <|
 .seq (.reg [1, 3, 5, 7, 8, 9] [⟨some 23, none, .load true 4 (.t 3)⟩,
    ⟨some 24, none, .mov (.t 1)⟩,
    ⟨some 25, none, .iaddrA 2 1 (.t 5) (.c (.g (.int .i64 0)))⟩,
    ⟨some 26, none, .load false 1 (.t 25)⟩,
    ⟨some 27, none, .iaddrA 2 1 (.t 5) (.c (.g (.int .i64 1)))⟩,
    ⟨some 28, none, .load false 1 (.t 27)⟩,
    ⟨some 29, none, .call (.c (.g (.fn 16))) [(.t 23), (.t 24), (.t 26), (.t 28)]⟩,
    ⟨some 22, none, .mov (.t 29)⟩,
    ⟨some 30, none, .ext 0 (.t 22)⟩,
    ⟨some 31, none, .ext 1 (.t 22)⟩,
    ⟨some 32, none, .ext 2 (.t 22)⟩,
    ⟨some 7, none, .mov (.t 30)⟩,
    ⟨some 8, none, .mov (.t 31)⟩,
    ⟨some 9, none, .mov (.t 32)⟩]) <|
 .seq (.seq (.reg [1, 3, 5, 7, 8, 34] [⟨some 33, none, .mov (.t 9)⟩,
     ⟨some 34, none, .bin .neq (.t 33) (.c (.g (.int .i64 0)))⟩]) <|
  .cond [1, 3, 5, 7, 8] (.t 34)
   (.seq (.reg [6] [⟨some 35, none, .mov (.t 7)⟩,
       ⟨some 36, none, .len (.t 35)⟩,
       ⟨some 37, none, .bin .eql (.t 36) (.c (.g (.int .i64 0)))⟩,
       ⟨some 38, none, .mov (.t 37)⟩,
       ⟨some 39, (some (38, true)), .mov (.t 8)⟩,
       ⟨some 40, (some (38, true)), .bin .eql (.t 39) (.c (.g (.int .i64 0)))⟩,
       ⟨some 41, none, .pick (.t 38) (.t 40) (.c (.g (.bool false)))⟩,
       ⟨some 42, none, .mov (.t 41)⟩,
       ⟨some 43, (some (42, true)), .call (.c (.g (.fn 15))) []⟩,
       ⟨some 44, none, .pick (.t 42) (.t 43) (.c (.g (.bool false)))⟩,
       ⟨some 6, none, .mov (.t 44)⟩]) <|
    .ret)
   (.skip)) <|
 .seq (.seq (.reg [1, 3, 5, 7, 8, 63] [⟨some 45, none, .mov (.t 8)⟩,
     ⟨some 46, none, .iaddrA 2 1 (.t 5) (.c (.g (.int .i64 0)))⟩,
     ⟨some 47, none, .load false 1 (.t 46)⟩,
     ⟨some 48, none, .bin .sub (.t 47) (.c (.g (.int .i64 1)))⟩,
     ⟨some 49, none, .bin .leq (.t 45) (.t 48)⟩,
     ⟨some 50, none, .mov (.t 49)⟩,
     ⟨some 51, (some (50, false)), .mov (.t 8)⟩,
     ⟨some 52, (some (50, false)), .faddr 0 (.t 3)⟩,
     ⟨some 53, (some (50, false)), .load false 1 (.t 52)⟩,
     ⟨some 54, (some (50, false)), .bin .add (.t 53) (.c (.g (.int .i64 1)))⟩,
     ⟨some 55, (some (50, false)), .bin .gtr (.t 51) (.t 54)⟩,
     ⟨some 56, none, .pick (.t 50) (.c (.g (.bool true))) (.t 55)⟩,
     ⟨some 57, none, .mov (.t 56)⟩,
     ⟨some 58, (some (57, false)), .mov (.t 7)⟩,
     ⟨some 59, (some (57, false)), .len (.t 58)⟩,
     ⟨some 60, (some (57, false)), .iaddrA 2 1 (.t 5) (.c (.g (.int .i64 1)))⟩,
     ⟨some 61, (some (57, false)), .load false 1 (.t 60)⟩,
     ⟨some 62, (some (57, false)), .bin .gtr (.t 59) (.t 61)⟩,
     ⟨some 63, none, .pick (.t 57) (.c (.g (.bool true))) (.t 62)⟩]) <|
  .cond [1, 3, 5, 7, 8] (.t 63)
   (.seq (.reg [6] [⟨some 6, none, .mov (.c (.g (.bool false)))⟩]) <|
    .ret)
   (.skip)) <|
 .seq (.reg [1, 3, 5, 7, 8, 10] [⟨some 10, none, .nres 8⟩]) <|
 .seq (.seq (.reg [1, 3, 5, 7, 8, 10, 11] [⟨some 11, none, .mov (.c (.g (.int .i64 0)))⟩]) <|
  .block [1, 3, 5, 7, 8, 10] 0 <|
  .loop [1, 3, 5, 7, 8, 10, 11] [] L5_0) <|
 .seq (.reg [1, 3, 5, 7, 8, 10, 13, 14] [⟨some 111, none, .load true 4 (.t 3)⟩,
    ⟨some 112, none, .mov (.t 1)⟩,
    ⟨some 113, none, .iaddrA 2 1 (.t 5) (.c (.g (.int .i64 0)))⟩,
    ⟨some 114, none, .load false 1 (.t 113)⟩,
    ⟨some 115, none, .iaddrA 2 1 (.t 5) (.c (.g (.int .i64 1)))⟩,
    ⟨some 116, none, .load false 1 (.t 115)⟩,
    ⟨some 117, none, .call (.c (.g (.fn 20))) [(.t 111), (.t 112), (.t 114), (.t 116)]⟩,
    ⟨some 110, none, .mov (.t 117)⟩,
    ⟨some 118, none, .ext 0 (.t 110)⟩,
    ⟨some 119, none, .ext 1 (.t 110)⟩,
    ⟨some 13, none, .mov (.t 118)⟩,
    ⟨some 14, none, .mov (.t 119)⟩]) <|
 .seq (.reg [7, 10, 13, 14, 15, 16] [⟨some 121, none, .load true 4 (.t 3)⟩,
    ⟨some 122, none, .mov (.t 1)⟩,
    ⟨some 123, none, .mov (.t 8)⟩,
    ⟨some 124, none, .iaddrA 2 1 (.t 5) (.c (.g (.int .i64 1)))⟩,
    ⟨some 125, none, .load false 1 (.t 124)⟩,
    ⟨some 126, none, .call (.c (.g (.fn 20))) [(.t 121), (.t 122), (.t 123), (.t 125)]⟩,
    ⟨some 120, none, .mov (.t 126)⟩,
    ⟨some 127, none, .ext 0 (.t 120)⟩,
    ⟨some 128, none, .ext 1 (.t 120)⟩,
    ⟨some 15, none, .mov (.t 127)⟩,
    ⟨some 16, none, .mov (.t 128)⟩]) <|
 .seq (.seq (.reg [7, 10, 13, 14, 15, 131] [⟨some 129, none, .mov (.t 14)⟩,
     ⟨some 130, none, .mov (.t 16)⟩,
     ⟨some 131, none, .bin .neq (.t 129) (.t 130)⟩]) <|
  .cond [7, 10, 13, 14, 15] (.t 131)
   (.seq (.reg [6] [⟨some 6, none, .mov (.c (.g (.bool false)))⟩]) <|
    .ret)
   (.skip)) <|
 .seq (.reg [6] [⟨some 132, none, .mov (.t 7)⟩,
    ⟨some 133, none, .mov (.t 10)⟩,
    ⟨some 134, none, .call (.c (.g (.fn 18))) [(.t 132), (.t 133)]⟩,
    ⟨some 135, none, .mov (.t 134)⟩,
    ⟨some 136, (some (135, true)), .mov (.t 14)⟩,
    ⟨some 137, (some (135, true)), .bin .neq (.t 136) (.c (.g (.int .i64 0)))⟩,
    ⟨some 138, (some (135, true)), .mov (.t 137)⟩,
    ⟨some 139, (some (138, false)), .mov (.t 13)⟩,
    ⟨some 140, (some (138, false)), .mk0 8⟩,
    ⟨some 141, (some (138, false)), .mov (.t 7)⟩,
    ⟨some 142, (some (138, false)), .app 8 80 (.t 140) (.t 141)⟩,
    ⟨some 143, (some (138, false)), .mov (.t 15)⟩,
    ⟨some 144, (some (138, false)), .app 8 80 (.t 142) (.t 143)⟩,
    ⟨some 145, (some (138, false)), .call (.c (.g (.fn 18))) [(.t 139), (.t 144)]⟩,
    ⟨some 146, (some (135, true)), .pick (.t 138) (.c (.g (.bool true))) (.t 145)⟩,
    ⟨some 147, none, .pick (.t 135) (.t 146) (.c (.g (.bool false)))⟩,
    ⟨some 148, none, .mov (.t 147)⟩,
    ⟨some 149, (some (148, true)), .call (.c (.g (.fn 15))) []⟩,
    ⟨some 150, none, .pick (.t 148) (.t 149) (.c (.g (.bool false)))⟩,
    ⟨some 6, none, .mov (.t 150)⟩]) <|
 .ret⟩
def h5 : List (List Nat) := [[1, 3, 5], [1, 3, 5, 20], [1, 3, 5], [6], [1, 3, 5, 7, 8, 9], [1, 3, 5, 7, 8, 34], [1, 3, 5, 7, 8], [6], [1, 3, 5, 7, 8, 63], [1, 3, 5, 7, 8], [6], [1, 3, 5, 7, 8, 10], [1, 3, 5, 7, 8, 10, 11], [1, 3, 5, 7, 8, 10], [1, 3, 5, 7, 8, 10, 11], [1, 3, 5, 7, 8, 10, 11, 68], [1, 3, 5, 7, 8, 10, 11], [1, 3, 5, 7, 8, 10, 11], [1, 3, 5, 7, 8, 10, 11, 12], [1, 3, 5, 7, 8, 10, 11, 12, 105], [1, 3, 5, 7, 8, 10, 11], [1, 3, 5, 7, 8, 10, 11], [1, 3, 5, 7, 8, 10, 11], [1, 3, 5, 7, 8, 10, 13, 14], [7, 10, 13, 14, 15, 16], [7, 10, 13, 14, 15, 131], [7, 10, 13, 14, 15], [6], [6]]
theorem c5 : cFunc Try.prog 5 false h5 = some F5 := by kernel_rfl

def L6_0 : IC :=
 .seq (.seq (.reg [2, 7, 8, 10, 11, 12, 13, 14, 49] [⟨some 46, none, .mov (.t 14)⟩,
     ⟨some 47, none, .mov (.t 8)⟩,
     ⟨some 48, none, .len (.t 47)⟩,
     ⟨some 49, none, .bin .lss (.t 46) (.t 48)⟩]) <|
  .cond [2, 7, 8, 10, 11, 12, 13, 14] (.t 49)
   (.skip)
   (.exit 0)) <|
 .seq (.block [2, 7, 8, 10, 11, 12, 13, 14] 1 <|
  .seq (.reg [2, 7, 8, 10, 11, 12, 13, 14, 15] [⟨some 52, none, .mov (.t 8)⟩,
     ⟨some 53, none, .mov (.t 14)⟩,
     ⟨some 54, none, .iaddr 8 (.t 52) (.t 53)⟩,
     ⟨some 55, none, .faddr 2 (.t 54)⟩,
     ⟨some 56, none, .faddr 0 (.t 55)⟩,
     ⟨some 57, none, .load false 1 (.t 56)⟩,
     ⟨some 15, none, .mov (.t 57)⟩]) <|
  .seq (.reg [2, 7, 8, 10, 11, 12, 13, 14, 70] [⟨some 58, none, .mov (.t 15)⟩,
     ⟨some 59, none, .lenS (.t 58)⟩,
     ⟨some 60, none, .mov (.t 2)⟩,
     ⟨some 61, none, .lenS (.t 60)⟩,
     ⟨some 62, none, .bin .geq (.t 59) (.t 61)⟩,
     ⟨some 63, none, .mov (.t 62)⟩,
     ⟨some 64, (some (63, true)), .mov (.t 15)⟩,
     ⟨some 65, (some (63, true)), .mov (.t 2)⟩,
     ⟨some 66, (some (63, true)), .lenS (.t 65)⟩,
     ⟨some 67, (some (63, true)), .slcS (.t 64) none (some (.t 66))⟩,
     ⟨some 68, (some (63, true)), .mov (.t 2)⟩,
     ⟨some 69, (some (63, true)), .bin .eql (.t 67) (.t 68)⟩,
     ⟨some 70, none, .pick (.t 63) (.t 69) (.c (.g (.bool false)))⟩]) <|
  .cond [2, 7, 8, 10, 11, 12, 13, 14] (.t 70)
   (.reg [2, 7, 8, 10, 11, 12, 13, 14] [⟨some 71, none, .mov (.t 13)⟩,
      ⟨some 72, none, .mov (.t 8)⟩,
      ⟨some 73, none, .mov (.t 14)⟩,
      ⟨some 74, none, .iaddr 8 (.t 72) (.t 73)⟩,
      ⟨some 75, none, .load true 8 (.t 74)⟩,
      ⟨some 76, none, .bslice 8 1 [.int .i64 0, .bool false, .str [], .str [], .int .i64 0, .int .i64 0, .int .i64 0, .int .i64 0] [(0, 8, (.t 75))]⟩,
      ⟨some 77, none, .app 8 80 (.t 71) (.t 76)⟩,
      ⟨some 13, none, .mov (.t 77)⟩])
   (.skip)) <|
 .reg [2, 7, 8, 10, 11, 12, 13, 14] [⟨some 50, none, .mov (.t 14)⟩,
   ⟨some 51, none, .bin .add (.t 50) (.c (.g (.int .i64 1)))⟩,
   ⟨some 14, none, .mov (.t 51)⟩]
def F6 : IFunc := ⟨3, 95, [.tmp 6], false,
 .seq (.reg [1, 2, 3] [⟨some 3, none, .box (.t 0)⟩,
    ⟨some 6, none, .mov (.c (.g (.bool false)))⟩]) <|
 .seq (.seq (.reg [1, 2, 3, 24] [⟨some 16, none, .load true 4 (.t 3)⟩,
     ⟨some 17, none, .mov (.t 2)⟩,
     ⟨some 18, none, .call (.c (.g (.fn 14))) [(.t 16), (.t 17)]⟩,
     ⟨some 19, none, .un .not (.t 18)⟩,
     ⟨some 20, none, .mov (.t 19)⟩,
     ⟨some 21, (some (20, false)), .mov (.t 1)⟩,
     ⟨some 22, (some (20, false)), .len (.t 21)⟩,
     ⟨some 23, (some (20, false)), .bin .gtr (.t 22) (.c (.g (.int .i64 30)))⟩,
     ⟨some 24, none, .pick (.t 20) (.c (.g (.bool true))) (.t 23)⟩]) <|
  .cond [1, 2, 3] (.t 24)
   (.seq (.reg [6] [⟨some 25, none, .call (.c (.g (.fn 15))) []⟩,
       ⟨some 6, none, .mov (.t 25)⟩]) <|
    .ret)
   (.skip)) <|
 .seq (.reg [2, 3, 7, 8, 9] [⟨some 27, none, .load true 4 (.t 3)⟩,
    ⟨some 28, none, .mov (.t 1)⟩,
    ⟨some 29, none, .call (.c (.g (.fn 25))) [(.t 27), (.t 28)]⟩,
    ⟨some 26, none, .mov (.t 29)⟩,
    ⟨some 30, none, .ext 0 (.t 26)⟩,
    ⟨some 31, none, .ext 1 (.t 26)⟩,
    ⟨some 32, none, .ext 2 (.t 26)⟩,
    ⟨some 7, none, .alloc [.z (.int .i64 0), .z (.int .i64 0), .s 6, .s 8]⟩,
    ⟨none, none, .store 4 (.t 7) (.t 30)⟩,
    ⟨some 8, none, .mov (.t 31)⟩,
    ⟨some 9, none, .mov (.t 32)⟩]) <|
 .seq (.seq (.reg [2, 3, 7, 8, 34] [⟨some 33, none, .mov (.t 9)⟩,
     ⟨some 34, none, .bin .neq (.t 33) (.c (.g (.int .i64 0)))⟩]) <|
  .cond [2, 3, 7, 8] (.t 34)
   (.seq (.reg [6] [⟨some 35, none, .call (.c (.g (.fn 15))) []⟩,
       ⟨some 6, none, .mov (.t 35)⟩]) <|
    .ret)
   (.skip)) <|
 .seq (.reg [2, 7, 8, 10, 11, 12] [⟨some 37, none, .load true 4 (.t 7)⟩,
    ⟨some 38, none, .mov (.t 2)⟩,
    ⟨some 39, none, .faddr 0 (.t 3)⟩,
    ⟨some 40, none, .load false 1 (.t 39)⟩,
    ⟨some 41, none, .bin .add (.t 40) (.c (.g (.int .i64 1)))⟩,
    ⟨some 42, none, .call (.c (.g (.fn 16))) [(.t 37), (.t 38), (.t 41), (.c (.g (.int .i64 30)))]⟩,
    ⟨some 36, none, .mov (.t 42)⟩,
    ⟨some 43, none, .ext 0 (.t 36)⟩,
    ⟨some 44, none, .ext 1 (.t 36)⟩,
    ⟨some 45, none, .ext 2 (.t 36)⟩,
    ⟨some 10, none, .mov (.t 43)⟩,
    ⟨some 11, none, .mov (.t 44)⟩,
    ⟨some 12, none, .mov (.t 45)⟩]) <|
 .seq (.reg [2, 7, 8, 10, 11, 12, 13] [⟨some 13, none, .nres 8⟩]) <|
 .seq (.seq (.reg [2, 7, 8, 10, 11, 12, 13, 14] [⟨some 14, none, .mov (.c (.g (.int .i64 0)))⟩]) <|
  .block [7, 10, 11, 12, 13] 0 <|
  .loop [2, 7, 8, 10, 11, 12, 13, 14] [] L6_0) <|
 .seq (.reg [6] [⟨some 78, none, .mov (.t 12)⟩,
    ⟨some 79, none, .bin .eql (.t 78) (.c (.g (.int .i64 0)))⟩,
    ⟨some 80, none, .mov (.t 79)⟩,
    ⟨some 81, (some (80, true)), .mov (.t 11)⟩,
    ⟨some 82, (some (80, true)), .faddr 0 (.t 7)⟩,
    ⟨some 83, (some (80, true)), .load false 1 (.t 82)⟩,
    ⟨some 84, (some (80, true)), .bin .add (.t 83) (.c (.g (.int .i64 1)))⟩,
    ⟨some 85, (some (80, true)), .bin .eql (.t 81) (.t 84)⟩,
    ⟨some 86, none, .pick (.t 80) (.t 85) (.c (.g (.bool false)))⟩,
    ⟨some 87, none, .mov (.t 86)⟩,
    ⟨some 88, (some (87, true)), .mov (.t 10)⟩,
    ⟨some 89, (some (87, true)), .mov (.t 13)⟩,
    ⟨some 90, (some (87, true)), .call (.c (.g (.fn 18))) [(.t 88), (.t 89)]⟩,
    ⟨some 91, none, .pick (.t 87) (.t 90) (.c (.g (.bool false)))⟩,
    ⟨some 92, none, .mov (.t 91)⟩,
    ⟨some 93, (some (92, true)), .call (.c (.g (.fn 15))) []⟩,
    ⟨some 94, none, .pick (.t 92) (.t 93) (.c (.g (.bool false)))⟩,
    ⟨some 6, none, .mov (.t 94)⟩]) <|
 .ret⟩
def h6 : List (List Nat) := [[1, 2, 3], [1, 2, 3, 24], [1, 2, 3], [6], [2, 3, 7, 8, 9], [2, 3, 7, 8, 34], [2, 3, 7, 8], [6], [2, 7, 8, 10, 11, 12], [2, 7, 8, 10, 11, 12, 13], [2, 7, 8, 10, 11, 12, 13, 14], [7, 10, 11, 12, 13], [2, 7, 8, 10, 11, 12, 13, 14], [2, 7, 8, 10, 11, 12, 13, 14, 49], [2, 7, 8, 10, 11, 12, 13, 14], [2, 7, 8, 10, 11, 12, 13, 14], [2, 7, 8, 10, 11, 12, 13, 14, 15], [2, 7, 8, 10, 11, 12, 13, 14, 70], [2, 7, 8, 10, 11, 12, 13, 14], [2, 7, 8, 10, 11, 12, 13, 14], [2, 7, 8, 10, 11, 12, 13, 14], [6]]
theorem c6 : cFunc Try.prog 6 false h6 = some F6 := by kernel_rfl

def F7 : IFunc := ⟨3, 95, [.tmp 6], false,
 .seq (.reg [1, 3, 5] [⟨some 3, none, .box (.t 0)⟩,
    ⟨some 5, none, .box (.t 2)⟩,
    ⟨some 6, none, .mov (.c (.g (.bool false)))⟩]) <|
 .seq (.seq (.reg [1, 3, 5, 18] [⟨some 15, none, .load true 4 (.t 3)⟩,
     ⟨some 16, none, .mov (.t 1)⟩,
     ⟨some 17, none, .call (.c (.g (.fn 14))) [(.t 15), (.t 16)]⟩,
     ⟨some 18, none, .un .not (.t 17)⟩]) <|
  .cond [1, 3, 5] (.t 18)
   (.seq (.reg [6] [⟨some 19, none, .call (.c (.g (.fn 15))) []⟩,
       ⟨some 6, none, .mov (.t 19)⟩]) <|
    .ret)
   (.skip)) <|
 .seq (.reg [1, 3, 5, 7, 8] [⟨some 21, none, .load true 4 (.t 3)⟩,
    ⟨some 22, none, .iaddrA 3 1 (.t 5) (.c (.g (.int .i64 0)))⟩,
    ⟨some 23, none, .load false 1 (.t 22)⟩,
    ⟨some 24, none, .call (.c (.g (.fn 26))) [(.t 21), (.t 23)]⟩,
    ⟨some 20, none, .mov (.t 24)⟩,
    ⟨some 25, none, .ext 0 (.t 20)⟩,
    ⟨some 26, none, .ext 1 (.t 20)⟩,
    ⟨some 7, none, .alloc [.z (.int .i64 0), .z (.int .i64 0), .s 6, .s 8]⟩,
    ⟨none, none, .store 4 (.t 7) (.t 25)⟩,
    ⟨some 8, none, .mov (.t 26)⟩]) <|
 .seq (.seq (.reg [1, 3, 5, 7, 28] [⟨some 27, none, .mov (.t 8)⟩,
     ⟨some 28, none, .bin .neq (.t 27) (.c (.g (.int .i64 0)))⟩]) <|
  .cond [1, 3, 5, 7] (.t 28)
   (.seq (.reg [6] [⟨some 29, none, .call (.c (.g (.fn 15))) []⟩,
       ⟨some 6, none, .mov (.t 29)⟩]) <|
    .ret)
   (.skip)) <|
 .seq (.reg [1, 5, 7, 9, 10, 11] [⟨some 31, none, .load true 4 (.t 3)⟩,
    ⟨some 32, none, .mov (.t 1)⟩,
    ⟨some 33, none, .iaddrA 3 1 (.t 5) (.c (.g (.int .i64 1)))⟩,
    ⟨some 34, none, .load false 1 (.t 33)⟩,
    ⟨some 35, none, .iaddrA 3 1 (.t 5) (.c (.g (.int .i64 2)))⟩,
    ⟨some 36, none, .load false 1 (.t 35)⟩,
    ⟨some 37, none, .call (.c (.g (.fn 16))) [(.t 31), (.t 32), (.t 34), (.t 36)]⟩,
    ⟨some 30, none, .mov (.t 37)⟩,
    ⟨some 38, none, .ext 0 (.t 30)⟩,
    ⟨some 39, none, .ext 1 (.t 30)⟩,
    ⟨some 40, none, .ext 2 (.t 30)⟩,
    ⟨some 9, none, .mov (.t 38)⟩,
    ⟨some 10, none, .mov (.t 39)⟩,
    ⟨some 11, none, .mov (.t 40)⟩]) <|
 .seq (.reg [5, 9, 10, 11, 12, 13, 14] [⟨some 42, none, .load true 4 (.t 7)⟩,
    ⟨some 43, none, .mov (.t 1)⟩,
    ⟨some 44, none, .iaddrA 3 1 (.t 5) (.c (.g (.int .i64 1)))⟩,
    ⟨some 45, none, .load false 1 (.t 44)⟩,
    ⟨some 46, none, .iaddrA 3 1 (.t 5) (.c (.g (.int .i64 2)))⟩,
    ⟨some 47, none, .load false 1 (.t 46)⟩,
    ⟨some 48, none, .call (.c (.g (.fn 16))) [(.t 42), (.t 43), (.t 45), (.t 47)]⟩,
    ⟨some 41, none, .mov (.t 48)⟩,
    ⟨some 49, none, .ext 0 (.t 41)⟩,
    ⟨some 50, none, .ext 1 (.t 41)⟩,
    ⟨some 51, none, .ext 2 (.t 41)⟩,
    ⟨some 12, none, .mov (.t 49)⟩,
    ⟨some 13, none, .mov (.t 50)⟩,
    ⟨some 14, none, .mov (.t 51)⟩]) <|
 .seq (.seq (.reg [9, 10, 11, 12, 13, 14, 64] [⟨some 52, none, .iaddrA 3 1 (.t 5) (.c (.g (.int .i64 1)))⟩,
     ⟨some 53, none, .load false 1 (.t 52)⟩,
     ⟨some 54, none, .iaddrA 3 1 (.t 5) (.c (.g (.int .i64 0)))⟩,
     ⟨some 55, none, .load false 1 (.t 54)⟩,
     ⟨some 56, none, .bin .gtr (.t 53) (.t 55)⟩,
     ⟨some 57, none, .mov (.t 56)⟩,
     ⟨some 58, (some (57, false)), .mov (.t 11)⟩,
     ⟨some 59, (some (57, false)), .bin .eql (.t 58) (.c (.g (.int .i64 1)))⟩,
     ⟨some 60, none, .pick (.t 57) (.c (.g (.bool true))) (.t 59)⟩,
     ⟨some 61, none, .mov (.t 60)⟩,
     ⟨some 62, (some (61, false)), .mov (.t 11)⟩,
     ⟨some 63, (some (61, false)), .bin .eql (.t 62) (.c (.g (.int .i64 8)))⟩,
     ⟨some 64, none, .pick (.t 61) (.c (.g (.bool true))) (.t 63)⟩]) <|
  .cond [12, 13, 14] (.t 64)
   (.seq (.reg [6] [⟨some 65, none, .mov (.t 9)⟩,
       ⟨some 66, none, .mov (.t 12)⟩,
       ⟨some 67, none, .call (.c (.g (.fn 18))) [(.t 65), (.t 66)]⟩,
       ⟨some 68, none, .mov (.t 67)⟩,
       ⟨some 69, (some (68, true)), .mov (.t 10)⟩,
       ⟨some 70, (some (68, true)), .mov (.t 13)⟩,
       ⟨some 71, (some (68, true)), .bin .eql (.t 69) (.t 70)⟩,
       ⟨some 72, none, .pick (.t 68) (.t 71) (.c (.g (.bool false)))⟩,
       ⟨some 73, none, .mov (.t 72)⟩,
       ⟨some 74, (some (73, true)), .mov (.t 11)⟩,
       ⟨some 75, (some (73, true)), .mov (.t 14)⟩,
       ⟨some 76, (some (73, true)), .bin .eql (.t 74) (.t 75)⟩,
       ⟨some 77, none, .pick (.t 73) (.t 76) (.c (.g (.bool false)))⟩,
       ⟨some 78, none, .mov (.t 77)⟩,
       ⟨some 79, (some (78, true)), .call (.c (.g (.fn 15))) []⟩,
       ⟨some 80, none, .pick (.t 78) (.t 79) (.c (.g (.bool false)))⟩,
       ⟨some 6, none, .mov (.t 80)⟩]) <|
    .ret)
   (.skip)) <|
 .seq (.reg [6] [⟨some 81, none, .mov (.t 14)⟩,
    ⟨some 82, none, .bin .eql (.t 81) (.c (.g (.int .i64 9)))⟩,
    ⟨some 83, none, .mov (.t 82)⟩,
    ⟨some 84, (some (83, true)), .mov (.t 12)⟩,
    ⟨some 85, (some (83, true)), .len (.t 84)⟩,
    ⟨some 86, (some (83, true)), .bin .eql (.t 85) (.c (.g (.int .i64 0)))⟩,
    ⟨some 87, none, .pick (.t 83) (.t 86) (.c (.g (.bool false)))⟩,
    ⟨some 88, none, .mov (.t 87)⟩,
    ⟨some 89, (some (88, true)), .mov (.t 13)⟩,
    ⟨some 90, (some (88, true)), .bin .eql (.t 89) (.c (.g (.int .i64 0)))⟩,
    ⟨some 91, none, .pick (.t 88) (.t 90) (.c (.g (.bool false)))⟩,
    ⟨some 92, none, .mov (.t 91)⟩,
    ⟨some 93, (some (92, true)), .call (.c (.g (.fn 15))) []⟩,
    ⟨some 94, none, .pick (.t 92) (.t 93) (.c (.g (.bool false)))⟩,
    ⟨some 6, none, .mov (.t 94)⟩]) <|
 .ret⟩
def h7 : List (List Nat) := [[1, 3, 5], [1, 3, 5, 18], [1, 3, 5], [6], [1, 3, 5, 7, 8], [1, 3, 5, 7, 28], [1, 3, 5, 7], [6], [1, 5, 7, 9, 10, 11], [5, 9, 10, 11, 12, 13, 14], [9, 10, 11, 12, 13, 14, 64], [12, 13, 14], [6], [6]]
theorem c7 : cFunc Try.prog 7 false h7 = some F7 := by kernel_rfl

def F8 : IFunc := ⟨3, 72, [.tmp 6], false,
 .seq (.reg [1, 2, 3] [⟨some 3, none, .box (.t 0)⟩,
    ⟨some 6, none, .mov (.c (.g (.bool false)))⟩]) <|
 .seq (.seq (.reg [1, 2, 3, 24] [⟨some 11, none, .load true 4 (.t 3)⟩,
     ⟨some 12, none, .mov (.t 1)⟩,
     ⟨some 13, none, .call (.c (.g (.fn 14))) [(.t 11), (.t 12)]⟩,
     ⟨some 14, none, .un .not (.t 13)⟩,
     ⟨some 15, none, .mov (.t 14)⟩,
     ⟨some 16, (some (15, false)), .mov (.t 2)⟩,
     ⟨some 17, (some (15, false)), .bin .lss (.t 16) (.c (.g (.int .i64 1)))⟩,
     ⟨some 18, none, .pick (.t 15) (.c (.g (.bool true))) (.t 17)⟩,
     ⟨some 19, none, .mov (.t 18)⟩,
     ⟨some 20, (some (19, false)), .mov (.t 2)⟩,
     ⟨some 21, (some (19, false)), .faddr 0 (.t 3)⟩,
     ⟨some 22, (some (19, false)), .load false 1 (.t 21)⟩,
     ⟨some 23, (some (19, false)), .bin .gtr (.t 20) (.t 22)⟩,
     ⟨some 24, none, .pick (.t 19) (.c (.g (.bool true))) (.t 23)⟩]) <|
  .cond [1, 2, 3] (.t 24)
   (.seq (.reg [6] [⟨some 25, none, .call (.c (.g (.fn 15))) []⟩,
       ⟨some 6, none, .mov (.t 25)⟩]) <|
    .ret)
   (.skip)) <|
 .seq (.reg [1, 2, 3, 7, 8] [⟨some 27, none, .load true 4 (.t 3)⟩,
    ⟨some 28, none, .mov (.t 2)⟩,
    ⟨some 29, none, .call (.c (.g (.fn 27))) [(.t 27), (.t 28)]⟩,
    ⟨some 26, none, .mov (.t 29)⟩,
    ⟨some 30, none, .ext 0 (.t 26)⟩,
    ⟨some 31, none, .ext 1 (.t 26)⟩,
    ⟨some 7, none, .mov (.t 30)⟩,
    ⟨some 8, none, .mov (.t 31)⟩]) <|
 .seq (.reg [1, 3, 7, 8, 9, 10] [⟨some 33, none, .load true 4 (.t 3)⟩,
    ⟨some 34, none, .mov (.t 1)⟩,
    ⟨some 35, none, .mov (.t 2)⟩,
    ⟨some 36, none, .bin .add (.t 35) (.c (.g (.int .i64 1)))⟩,
    ⟨some 37, none, .call (.c (.g (.fn 20))) [(.t 33), (.t 34), (.t 36), (.c (.g (.int .i64 30)))]⟩,
    ⟨some 32, none, .mov (.t 37)⟩,
    ⟨some 38, none, .ext 0 (.t 32)⟩,
    ⟨some 39, none, .ext 1 (.t 32)⟩,
    ⟨some 9, none, .mov (.t 38)⟩,
    ⟨some 10, none, .mov (.t 39)⟩]) <|
 .seq (.seq (.reg [1, 3, 7, 8, 9, 10, 45] [⟨some 40, none, .mov (.t 8)⟩,
     ⟨some 41, none, .bin .neq (.t 40) (.c (.g (.int .i64 0)))⟩,
     ⟨some 42, none, .mov (.t 41)⟩,
     ⟨some 43, (some (42, false)), .mov (.t 10)⟩,
     ⟨some 44, (some (42, false)), .bin .neq (.t 43) (.c (.g (.int .i64 0)))⟩,
     ⟨some 45, none, .pick (.t 42) (.c (.g (.bool true))) (.t 44)⟩]) <|
  .cond [1, 3, 7, 9] (.t 45)
   (.seq (.reg [6] [⟨some 46, none, .mov (.t 8)⟩,
       ⟨some 47, none, .bin .eql (.t 46) (.c (.g (.int .i64 9)))⟩,
       ⟨some 48, none, .mov (.t 47)⟩,
       ⟨some 49, (some (48, true)), .mov (.t 10)⟩,
       ⟨some 50, (some (48, true)), .bin .eql (.t 49) (.c (.g (.int .i64 9)))⟩,
       ⟨some 51, none, .pick (.t 48) (.t 50) (.c (.g (.bool false)))⟩,
       ⟨some 52, none, .mov (.t 51)⟩,
       ⟨some 53, (some (52, false)), .mov (.t 10)⟩,
       ⟨some 54, (some (52, false)), .bin .eql (.t 53) (.c (.g (.int .i64 4)))⟩,
       ⟨some 55, none, .pick (.t 52) (.c (.g (.bool true))) (.t 54)⟩,
       ⟨some 56, none, .mov (.t 55)⟩,
       ⟨some 57, (some (56, true)), .call (.c (.g (.fn 15))) []⟩,
       ⟨some 58, none, .pick (.t 56) (.t 57) (.c (.g (.bool false)))⟩,
       ⟨some 6, none, .mov (.t 58)⟩]) <|
    .ret)
   (.skip)) <|
 .seq (.drw [6] 0 <|
  .take ⟨some 59, none, .mov (.t 7)⟩ <|
  .take ⟨some 60, none, .mov (.t 1)⟩ <|
  .take ⟨some 62, none, .mov (.t 9)⟩ <|
  .take ⟨some 64, none, .load true 4 (.t 3)⟩ <|
  .take ⟨some 66, none, .mov (.t 1)⟩ <|
  .one ⟨some 61, none, .call (.c (.g (.fn 28))) [(.t 59), (.t 60)]⟩ <|
  .one ⟨some 63, none, .call (.c (.g (.fn 23))) [(.t 61), (.t 62)]⟩ <|
  .one ⟨some 65, none, .call (.c (.g (.fn 29))) [(.t 64)]⟩ <|
  .one ⟨some 67, none, .call (.c (.g (.fn 28))) [(.t 65), (.t 66)]⟩ <|
  .one ⟨some 68, none, .call (.c (.g (.fn 22))) [(.t 63), (.t 67)]⟩ <|
  .take ⟨some 69, none, .mov (.t 68)⟩ <|
  .one ⟨some 70, (some (69, true)), .call (.c (.g (.fn 15))) []⟩ <|
  .take ⟨some 71, none, .pick (.t 69) (.t 70) (.c (.g (.bool false)))⟩ <|
  .free <|
  .take ⟨some 6, none, .mov (.t 71)⟩ <|
  .leaf) <|
 .ret⟩
def h8 : List (List Nat) := [[1, 2, 3], [1, 2, 3, 24], [1, 2, 3], [6], [1, 2, 3, 7, 8], [1, 3, 7, 8, 9, 10], [1, 3, 7, 8, 9, 10, 45], [1, 3, 7, 9], [6], [6], []]
theorem c8 : cFunc Try.prog 8 false h8 = some F8 := by kernel_rfl

def F9 : IFunc := ⟨3, 99, [.tmp 6], false,
 .seq (.reg [3, 4, 5] [⟨some 3, none, .box (.t 0)⟩,
    ⟨some 4, none, .box (.t 1)⟩,
    ⟨some 5, none, .box (.t 2)⟩,
    ⟨some 6, none, .mov (.c (.g (.bool false)))⟩]) <|
 .seq (.seq (.reg [3, 4, 5, 31] [⟨some 17, none, .load true 2 (.t 3)⟩,
     ⟨some 18, none, .call (.c (.g (.fn 30))) [(.t 17)]⟩,
     ⟨some 19, none, .un .not (.t 18)⟩,
     ⟨some 20, none, .mov (.t 19)⟩,
     ⟨some 21, (some (20, false)), .faddr 7 (.t 5)⟩,
     ⟨some 22, (some (20, false)), .load false 1 (.t 21)⟩,
     ⟨some 23, (some (20, false)), .call (.c (.g (.fn 19))) [(.t 22), (.c (.g (.int .i64 40)))]⟩,
     ⟨some 24, (some (20, false)), .un .not (.t 23)⟩,
     ⟨some 25, none, .pick (.t 20) (.c (.g (.bool true))) (.t 24)⟩,
     ⟨some 26, none, .mov (.t 25)⟩,
     ⟨some 27, (some (26, false)), .faddr 8 (.t 5)⟩,
     ⟨some 28, (some (26, false)), .load false 1 (.t 27)⟩,
     ⟨some 29, (some (26, false)), .call (.c (.g (.fn 31))) [(.t 28), (.c (.g (.int .i64 40)))]⟩,
     ⟨some 30, (some (26, false)), .un .not (.t 29)⟩,
     ⟨some 31, none, .pick (.t 26) (.c (.g (.bool true))) (.t 30)⟩]) <|
  .cond [3, 4, 5] (.t 31)
   (.seq (.reg [6] [⟨some 32, none, .call (.c (.g (.fn 32))) []⟩,
       ⟨some 6, none, .mov (.t 32)⟩]) <|
    .ret)
   (.skip)) <|
 .seq (.reg [3, 4, 5, 7, 8, 9] [⟨some 34, none, .load true 2 (.t 3)⟩,
    ⟨some 35, none, .iaddrA 2 1 (.t 4) (.c (.g (.int .i64 0)))⟩,
    ⟨some 36, none, .load false 1 (.t 35)⟩,
    ⟨some 37, none, .iaddrA 2 1 (.t 4) (.c (.g (.int .i64 1)))⟩,
    ⟨some 38, none, .load false 1 (.t 37)⟩,
    ⟨some 39, none, .call (.c (.g (.fn 33))) [(.t 34), (.t 36), (.t 38)]⟩,
    ⟨some 33, none, .mov (.t 39)⟩,
    ⟨some 40, none, .ext 0 (.t 33)⟩,
    ⟨some 41, none, .ext 1 (.t 33)⟩,
    ⟨some 42, none, .ext 2 (.t 33)⟩,
    ⟨some 7, none, .alloc [.z (.int .i64 0), .z (.int .i64 0), .z (.int .i64 0), .z (.int .i64 0), .z (.int .i64 0), .z (.int .i64 0), .z (.bool false), .s 6, .s 8]⟩,
    ⟨none, none, .store 9 (.t 7) (.t 40)⟩,
    ⟨some 8, none, .mov (.t 41)⟩,
    ⟨some 9, none, .mov (.t 42)⟩]) <|
 .seq (.reg [3, 4, 5, 7, 8, 9, 10, 11, 12] [⟨some 44, none, .load true 2 (.t 3)⟩,
    ⟨some 45, none, .iaddrA 2 1 (.t 4) (.c (.g (.int .i64 0)))⟩,
    ⟨some 46, none, .load false 1 (.t 45)⟩,
    ⟨some 47, none, .iaddrA 2 1 (.t 4) (.c (.g (.int .i64 1)))⟩,
    ⟨some 48, none, .load false 1 (.t 47)⟩,
    ⟨some 49, none, .call (.c (.g (.fn 34))) [(.t 44), (.t 46), (.t 48)]⟩,
    ⟨some 43, none, .mov (.t 49)⟩,
    ⟨some 50, none, .ext 0 (.t 43)⟩,
    ⟨some 51, none, .ext 1 (.t 43)⟩,
    ⟨some 52, none, .ext 2 (.t 43)⟩,
    ⟨some 10, none, .alloc [.z (.int .i64 0), .z (.int .i64 0), .z (.int .i64 0), .z (.int .i64 0), .z (.int .i64 0), .z (.int .i64 0), .z (.bool false), .s 6, .s 8]⟩,
    ⟨none, none, .store 9 (.t 10) (.t 50)⟩,
    ⟨some 11, none, .mov (.t 51)⟩,
    ⟨some 12, none, .mov (.t 52)⟩]) <|
 .seq (.reg [3, 4, 5, 7, 8, 9, 10, 11, 12, 13, 14] [⟨some 54, none, .load true 2 (.t 3)⟩,
    ⟨some 55, none, .iaddrA 2 1 (.t 4) (.c (.g (.int .i64 0)))⟩,
    ⟨some 56, none, .load false 1 (.t 55)⟩,
    ⟨some 57, none, .iaddrA 2 1 (.t 4) (.c (.g (.int .i64 1)))⟩,
    ⟨some 58, none, .load false 1 (.t 57)⟩,
    ⟨some 59, none, .load true 9 (.t 5)⟩,
    ⟨some 60, none, .call (.c (.g (.fn 35))) [(.t 54), (.t 56), (.t 58), (.t 59)]⟩,
    ⟨some 53, none, .mov (.t 60)⟩,
    ⟨some 61, none, .ext 0 (.t 53)⟩,
    ⟨some 62, none, .ext 1 (.t 53)⟩,
    ⟨some 13, none, .alloc [.s 11, .s 2]⟩,
    ⟨none, none, .store 2 (.t 13) (.t 61)⟩,
    ⟨some 14, none, .mov (.t 62)⟩]) <|
 .seq (.reg [7, 8, 9, 10, 11, 12, 13, 14, 15, 16] [⟨some 64, none, .load true 2 (.t 3)⟩,
    ⟨some 65, none, .iaddrA 2 1 (.t 4) (.c (.g (.int .i64 0)))⟩,
    ⟨some 66, none, .load false 1 (.t 65)⟩,
    ⟨some 67, none, .iaddrA 2 1 (.t 4) (.c (.g (.int .i64 1)))⟩,
    ⟨some 68, none, .load false 1 (.t 67)⟩,
    ⟨some 69, none, .load true 9 (.t 5)⟩,
    ⟨some 70, none, .call (.c (.g (.fn 36))) [(.t 64), (.t 66), (.t 68), (.t 69)]⟩,
    ⟨some 63, none, .mov (.t 70)⟩,
    ⟨some 71, none, .ext 0 (.t 63)⟩,
    ⟨some 72, none, .ext 1 (.t 63)⟩,
    ⟨some 15, none, .alloc [.s 11, .s 2]⟩,
    ⟨none, none, .store 2 (.t 15) (.t 71)⟩,
    ⟨some 16, none, .mov (.t 72)⟩]) <|
 .seq (.reg [6] [⟨some 73, none, .load true 9 (.t 7)⟩,
    ⟨some 74, none, .load true 9 (.t 10)⟩,
    ⟨some 75, none, .call (.c (.g (.fn 37))) [(.t 73), (.t 74)]⟩,
    ⟨some 76, none, .mov (.t 75)⟩,
    ⟨some 77, (some (76, true)), .mov (.t 8)⟩,
    ⟨some 78, (some (76, true)), .mov (.t 11)⟩,
    ⟨some 79, (some (76, true)), .eqs false false [.b] (.t 77) (.t 78)⟩,
    ⟨some 80, none, .pick (.t 76) (.t 79) (.c (.g (.bool false)))⟩,
    ⟨some 81, none, .mov (.t 80)⟩,
    ⟨some 82, (some (81, true)), .mov (.t 9)⟩,
    ⟨some 83, (some (81, true)), .mov (.t 12)⟩,
    ⟨some 84, (some (81, true)), .bin .eql (.t 82) (.t 83)⟩,
    ⟨some 85, none, .pick (.t 81) (.t 84) (.c (.g (.bool false)))⟩,
    ⟨some 86, none, .mov (.t 85)⟩,
    ⟨some 87, (some (86, true)), .load true 2 (.t 13)⟩,
    ⟨some 88, (some (86, true)), .load true 2 (.t 15)⟩,
    ⟨some 89, (some (86, true)), .call (.c (.g (.fn 38))) [(.t 87), (.t 88)]⟩,
    ⟨some 90, none, .pick (.t 86) (.t 89) (.c (.g (.bool false)))⟩,
    ⟨some 91, none, .mov (.t 90)⟩,
    ⟨some 92, (some (91, true)), .mov (.t 14)⟩,
    ⟨some 93, (some (91, true)), .mov (.t 16)⟩,
    ⟨some 94, (some (91, true)), .bin .eql (.t 92) (.t 93)⟩,
    ⟨some 95, none, .pick (.t 91) (.t 94) (.c (.g (.bool false)))⟩,
    ⟨some 96, none, .mov (.t 95)⟩,
    ⟨some 97, (some (96, true)), .call (.c (.g (.fn 32))) []⟩,
    ⟨some 98, none, .pick (.t 96) (.t 97) (.c (.g (.bool false)))⟩,
    ⟨some 6, none, .mov (.t 98)⟩]) <|
 .ret⟩
def h9 : List (List Nat) := [[3, 4, 5], [3, 4, 5, 31], [3, 4, 5], [6], [3, 4, 5, 7, 8, 9], [3, 4, 5, 7, 8, 9, 10, 11, 12], [3, 4, 5, 7, 8, 9, 10, 11, 12, 13, 14], [7, 8, 9, 10, 11, 12, 13, 14, 15, 16], [6]]
theorem c9 : cFunc Try.prog 9 false h9 = some F9 := by kernel_rfl

def F10 : IFunc := ⟨3, 175, [.tmp 6], false,
 .seq (.reg [3, 4, 5] [⟨some 3, none, .box (.t 0)⟩,
    ⟨some 4, none, .box (.t 1)⟩,
    ⟨some 5, none, .box (.t 2)⟩,
    ⟨some 6, none, .mov (.c (.g (.bool false)))⟩]) <|
 .seq (.seq (.reg [3, 4, 5, 29] [⟨some 22, none, .load true 2 (.t 3)⟩,
     ⟨some 23, none, .call (.c (.g (.fn 30))) [(.t 22)]⟩,
     ⟨some 24, none, .un .not (.t 23)⟩,
     ⟨some 25, none, .mov (.t 24)⟩,
     ⟨some 26, (some (25, false)), .load true 2 (.t 3)⟩,
     ⟨some 27, (some (25, false)), .call (.c (.g (.fn 39))) [(.t 26)]⟩,
     ⟨some 28, (some (25, false)), .un .not (.t 27)⟩,
     ⟨some 29, none, .pick (.t 25) (.c (.g (.bool true))) (.t 28)⟩]) <|
  .cond [3, 4, 5] (.t 29)
   (.seq (.reg [6] [⟨some 30, none, .call (.c (.g (.fn 32))) []⟩,
       ⟨some 6, none, .mov (.t 30)⟩]) <|
    .ret)
   (.skip)) <|
 .seq (.reg [3, 4, 5, 7] [⟨some 31, none, .build [.g (.int .i64 0), .g (.int .i64 0), .g (.int .i64 0), .g (.int .i64 0), .g (.int .i64 0), .g (.int .i64 0), .g (.bool false), .g (.nsl), .g (.nsl)] [(3, 1, (.c (.g (.int .i64 77)))), (6, 1, (.c (.g (.bool true))))]⟩,
    ⟨some 7, none, .alloc [.z (.int .i64 0), .z (.int .i64 0), .z (.int .i64 0), .z (.int .i64 0), .z (.int .i64 0), .z (.int .i64 0), .z (.bool false), .s 6, .s 8]⟩,
    ⟨none, none, .store 9 (.t 7) (.t 31)⟩]) <|
 .seq (.reg [3, 4, 5, 7, 8, 9] [⟨some 33, none, .load true 2 (.t 3)⟩,
    ⟨some 34, none, .iaddrA 2 1 (.t 4) (.c (.g (.int .i64 0)))⟩,
    ⟨some 35, none, .load false 1 (.t 34)⟩,
    ⟨some 36, none, .iaddrA 2 1 (.t 4) (.c (.g (.int .i64 1)))⟩,
    ⟨some 37, none, .load false 1 (.t 36)⟩,
    ⟨some 38, none, .load true 9 (.t 7)⟩,
    ⟨some 39, none, .call (.c (.g (.fn 35))) [(.t 33), (.t 35), (.t 37), (.t 38)]⟩,
    ⟨some 32, none, .mov (.t 39)⟩,
    ⟨some 40, none, .ext 0 (.t 32)⟩,
    ⟨some 41, none, .ext 1 (.t 32)⟩,
    ⟨some 8, none, .alloc [.s 11, .s 2]⟩,
    ⟨none, none, .store 2 (.t 8) (.t 40)⟩,
    ⟨some 9, none, .mov (.t 41)⟩]) <|
 .seq (.seq (.reg [3, 4, 5, 7, 8, 9, 43] [⟨some 42, none, .mov (.t 9)⟩,
     ⟨some 43, none, .bin .neq (.t 42) (.c (.g (.int .i64 0)))⟩]) <|
  .cond [3, 4, 5, 7, 8] (.t 43)
   (.seq (.reg [3, 8, 9, 11, 12] [⟨some 45, none, .load true 2 (.t 3)⟩,
       ⟨some 46, none, .iaddrA 2 1 (.t 4) (.c (.g (.int .i64 0)))⟩,
       ⟨some 47, none, .load false 1 (.t 46)⟩,
       ⟨some 48, none, .iaddrA 2 1 (.t 4) (.c (.g (.int .i64 1)))⟩,
       ⟨some 49, none, .load false 1 (.t 48)⟩,
       ⟨some 50, none, .call (.c (.g (.fn 33))) [(.t 45), (.t 47), (.t 49)]⟩,
       ⟨some 44, none, .mov (.t 50)⟩,
       ⟨some 51, none, .ext 0 (.t 44)⟩,
       ⟨some 52, none, .ext 1 (.t 44)⟩,
       ⟨some 53, none, .ext 2 (.t 44)⟩,
       ⟨some 10, none, .alloc [.z (.int .i64 0), .z (.int .i64 0), .z (.int .i64 0), .z (.int .i64 0), .z (.int .i64 0), .z (.int .i64 0), .z (.bool false), .s 6, .s 8]⟩,
       ⟨none, none, .store 9 (.t 10) (.t 51)⟩,
       ⟨some 11, none, .mov (.t 52)⟩,
       ⟨some 12, none, .mov (.t 53)⟩]) <|
    .seq (.reg [6] [⟨some 54, none, .load true 2 (.t 8)⟩,
       ⟨some 55, none, .load true 2 (.t 3)⟩,
       ⟨some 56, none, .call (.c (.g (.fn 38))) [(.t 54), (.t 55)]⟩,
       ⟨some 57, none, .mov (.t 56)⟩,
       ⟨some 58, (some (57, true)), .mov (.t 11)⟩,
       ⟨some 59, (some (57, true)), .mov (.t 58)⟩,
       ⟨some 60, (some (59, true)), .mov (.t 9)⟩,
       ⟨some 61, (some (59, true)), .bin .eql (.t 60) (.c (.g (.int .i64 11)))⟩,
       ⟨some 62, (some (57, true)), .pick (.t 59) (.t 61) (.c (.g (.bool false)))⟩,
       ⟨some 63, (some (57, true)), .mov (.t 62)⟩,
       ⟨some 64, (some (63, false)), .mov (.t 11)⟩,
       ⟨some 65, (some (63, false)), .un .not (.t 64)⟩,
       ⟨some 66, (some (63, false)), .mov (.t 65)⟩,
       ⟨some 67, (some (66, true)), .mov (.t 9)⟩,
       ⟨some 68, (some (66, true)), .mov (.t 12)⟩,
       ⟨some 69, (some (66, true)), .bin .eql (.t 67) (.t 68)⟩,
       ⟨some 70, (some (63, false)), .pick (.t 66) (.t 69) (.c (.g (.bool false)))⟩,
       ⟨some 71, (some (57, true)), .pick (.t 63) (.c (.g (.bool true))) (.t 70)⟩,
       ⟨some 72, none, .pick (.t 57) (.t 71) (.c (.g (.bool false)))⟩,
       ⟨some 73, none, .mov (.t 72)⟩,
       ⟨some 74, (some (73, true)), .call (.c (.g (.fn 32))) []⟩,
       ⟨some 75, none, .pick (.t 73) (.t 74) (.c (.g (.bool false)))⟩,
       ⟨some 6, none, .mov (.t 75)⟩]) <|
    .ret)
   (.skip)) <|
 .seq (.reg [3, 4, 5, 7, 8, 13, 14, 15] [⟨some 77, none, .load true 2 (.t 8)⟩,
    ⟨some 78, none, .iaddrA 2 1 (.t 4) (.c (.g (.int .i64 0)))⟩,
    ⟨some 79, none, .load false 1 (.t 78)⟩,
    ⟨some 80, none, .iaddrA 2 1 (.t 4) (.c (.g (.int .i64 1)))⟩,
    ⟨some 81, none, .load false 1 (.t 80)⟩,
    ⟨some 82, none, .call (.c (.g (.fn 33))) [(.t 77), (.t 79), (.t 81)]⟩,
    ⟨some 76, none, .mov (.t 82)⟩,
    ⟨some 83, none, .ext 0 (.t 76)⟩,
    ⟨some 84, none, .ext 1 (.t 76)⟩,
    ⟨some 85, none, .ext 2 (.t 76)⟩,
    ⟨some 13, none, .alloc [.z (.int .i64 0), .z (.int .i64 0), .z (.int .i64 0), .z (.int .i64 0), .z (.int .i64 0), .z (.int .i64 0), .z (.bool false), .s 6, .s 8]⟩,
    ⟨none, none, .store 9 (.t 13) (.t 83)⟩,
    ⟨some 14, none, .mov (.t 84)⟩,
    ⟨some 15, none, .mov (.t 85)⟩]) <|
 .seq (.seq (.reg [3, 4, 5, 8, 105] [⟨some 86, none, .load true 2 (.t 8)⟩,
     ⟨some 87, none, .call (.c (.g (.fn 39))) [(.t 86)]⟩,
     ⟨some 88, none, .un .not (.t 87)⟩,
     ⟨some 89, none, .mov (.t 88)⟩,
     ⟨some 90, (some (89, false)), .mov (.t 14)⟩,
     ⟨some 91, (some (89, false)), .mov (.t 90)⟩,
     ⟨some 92, (some (91, true)), .load true 9 (.t 13)⟩,
     ⟨some 93, (some (91, true)), .load true 9 (.t 7)⟩,
     ⟨some 94, (some (91, true)), .call (.c (.g (.fn 37))) [(.t 92), (.t 93)]⟩,
     ⟨some 95, (some (91, true)), .un .not (.t 94)⟩,
     ⟨some 96, (some (89, false)), .pick (.t 91) (.t 95) (.c (.g (.bool false)))⟩,
     ⟨some 97, none, .pick (.t 89) (.c (.g (.bool true))) (.t 96)⟩,
     ⟨some 98, none, .mov (.t 97)⟩,
     ⟨some 99, (some (98, false)), .mov (.t 14)⟩,
     ⟨some 100, (some (98, false)), .un .not (.t 99)⟩,
     ⟨some 101, (some (98, false)), .mov (.t 100)⟩,
     ⟨some 102, (some (101, true)), .mov (.t 15)⟩,
     ⟨some 103, (some (101, true)), .bin .neq (.t 102) (.c (.g (.int .i64 7)))⟩,
     ⟨some 104, (some (98, false)), .pick (.t 101) (.t 103) (.c (.g (.bool false)))⟩,
     ⟨some 105, none, .pick (.t 98) (.c (.g (.bool true))) (.t 104)⟩]) <|
  .cond [3, 4, 5, 8] (.t 105)
   (.seq (.reg [6] [⟨some 6, none, .mov (.c (.g (.bool false)))⟩]) <|
    .ret)
   (.skip)) <|
 .seq (.reg [4, 5, 8, 16, 17, 18] [⟨some 107, none, .load true 2 (.t 3)⟩,
    ⟨some 108, none, .iaddrA 2 1 (.t 5) (.c (.g (.int .i64 0)))⟩,
    ⟨some 109, none, .load false 1 (.t 108)⟩,
    ⟨some 110, none, .iaddrA 2 1 (.t 5) (.c (.g (.int .i64 1)))⟩,
    ⟨some 111, none, .load false 1 (.t 110)⟩,
    ⟨some 112, none, .call (.c (.g (.fn 33))) [(.t 107), (.t 109), (.t 111)]⟩,
    ⟨some 106, none, .mov (.t 112)⟩,
    ⟨some 113, none, .ext 0 (.t 106)⟩,
    ⟨some 114, none, .ext 1 (.t 106)⟩,
    ⟨some 115, none, .ext 2 (.t 106)⟩,
    ⟨some 16, none, .alloc [.z (.int .i64 0), .z (.int .i64 0), .z (.int .i64 0), .z (.int .i64 0), .z (.int .i64 0), .z (.int .i64 0), .z (.bool false), .s 6, .s 8]⟩,
    ⟨none, none, .store 9 (.t 16) (.t 113)⟩,
    ⟨some 17, none, .mov (.t 114)⟩,
    ⟨some 18, none, .mov (.t 115)⟩]) <|
 .seq (.reg [4, 5, 16, 17, 18, 19, 20, 21] [⟨some 117, none, .load true 2 (.t 8)⟩,
    ⟨some 118, none, .iaddrA 2 1 (.t 5) (.c (.g (.int .i64 0)))⟩,
    ⟨some 119, none, .load false 1 (.t 118)⟩,
    ⟨some 120, none, .iaddrA 2 1 (.t 5) (.c (.g (.int .i64 1)))⟩,
    ⟨some 121, none, .load false 1 (.t 120)⟩,
    ⟨some 122, none, .call (.c (.g (.fn 33))) [(.t 117), (.t 119), (.t 121)]⟩,
    ⟨some 116, none, .mov (.t 122)⟩,
    ⟨some 123, none, .ext 0 (.t 116)⟩,
    ⟨some 124, none, .ext 1 (.t 116)⟩,
    ⟨some 125, none, .ext 2 (.t 116)⟩,
    ⟨some 19, none, .alloc [.z (.int .i64 0), .z (.int .i64 0), .z (.int .i64 0), .z (.int .i64 0), .z (.int .i64 0), .z (.int .i64 0), .z (.bool false), .s 6, .s 8]⟩,
    ⟨none, none, .store 9 (.t 19) (.t 123)⟩,
    ⟨some 20, none, .mov (.t 124)⟩,
    ⟨some 21, none, .mov (.t 125)⟩]) <|
 .seq (.seq (.reg [4, 5, 16, 17, 18, 19, 20, 21, 130] [⟨some 126, none, .iaddrA 2 1 (.t 5) (.c (.g (.int .i64 0)))⟩,
     ⟨some 127, none, .load false 1 (.t 126)⟩,
     ⟨some 128, none, .iaddrA 2 1 (.t 4) (.c (.g (.int .i64 0)))⟩,
     ⟨some 129, none, .load false 1 (.t 128)⟩,
     ⟨some 130, none, .bin .eql (.t 127) (.t 129)⟩]) <|
  .cond [16, 17, 18, 19, 20, 21] (.t 130)
   (.seq (.reg [6] [⟨some 131, none, .mov (.t 20)⟩,
       ⟨some 132, none, .un .not (.t 131)⟩,
       ⟨some 133, none, .mov (.t 132)⟩,
       ⟨some 134, (some (133, false)), .iaddrA 2 1 (.t 5) (.c (.g (.int .i64 1)))⟩,
       ⟨some 135, (some (133, false)), .load false 1 (.t 134)⟩,
       ⟨some 136, (some (133, false)), .iaddrA 2 1 (.t 4) (.c (.g (.int .i64 1)))⟩,
       ⟨some 137, (some (133, false)), .load false 1 (.t 136)⟩,
       ⟨some 138, (some (133, false)), .bin .eql (.t 135) (.t 137)⟩,
       ⟨some 139, none, .pick (.t 133) (.c (.g (.bool true))) (.t 138)⟩,
       ⟨some 140, none, .mov (.t 139)⟩,
       ⟨some 141, (some (140, false)), .mov (.t 17)⟩,
       ⟨some 142, (some (140, false)), .mov (.t 141)⟩,
       ⟨some 143, (some (142, true)), .load true 9 (.t 16)⟩,
       ⟨some 144, (some (142, true)), .load true 9 (.t 19)⟩,
       ⟨some 145, (some (142, true)), .call (.c (.g (.fn 37))) [(.t 143), (.t 144)]⟩,
       ⟨some 146, (some (140, false)), .pick (.t 142) (.t 145) (.c (.g (.bool false)))⟩,
       ⟨some 147, none, .pick (.t 140) (.c (.g (.bool true))) (.t 146)⟩,
       ⟨some 148, none, .mov (.t 147)⟩,
       ⟨some 149, (some (148, true)), .call (.c (.g (.fn 32))) []⟩,
       ⟨some 150, none, .pick (.t 148) (.t 149) (.c (.g (.bool false)))⟩,
       ⟨some 6, none, .mov (.t 150)⟩]) <|
    .ret)
   (.skip)) <|
 .seq (.reg [6] [⟨some 151, none, .load true 9 (.t 16)⟩,
    ⟨some 152, none, .load true 9 (.t 19)⟩,
    ⟨some 153, none, .call (.c (.g (.fn 37))) [(.t 151), (.t 152)]⟩,
    ⟨some 154, none, .mov (.t 153)⟩,
    ⟨some 155, (some (154, true)), .mov (.t 17)⟩,
    ⟨some 156, (some (154, true)), .mov (.t 20)⟩,
    ⟨some 157, (some (154, true)), .eqs false false [.b] (.t 155) (.t 156)⟩,
    ⟨some 158, none, .pick (.t 154) (.t 157) (.c (.g (.bool false)))⟩,
    ⟨some 159, none, .mov (.t 158)⟩,
    ⟨some 160, (some (159, true)), .mov (.t 18)⟩,
    ⟨some 161, (some (159, true)), .mov (.t 21)⟩,
    ⟨some 162, (some (159, true)), .bin .eql (.t 160) (.t 161)⟩,
    ⟨some 163, (some (159, true)), .mov (.t 162)⟩,
    ⟨some 164, (some (163, false)), .mov (.t 18)⟩,
    ⟨some 165, (some (163, false)), .bin .eql (.t 164) (.c (.g (.int .i64 0)))⟩,
    ⟨some 166, (some (163, false)), .mov (.t 165)⟩,
    ⟨some 167, (some (166, true)), .mov (.t 21)⟩,
    ⟨some 168, (some (166, true)), .bin .eql (.t 167) (.c (.g (.int .i64 4)))⟩,
    ⟨some 169, (some (163, false)), .pick (.t 166) (.t 168) (.c (.g (.bool false)))⟩,
    ⟨some 170, (some (159, true)), .pick (.t 163) (.c (.g (.bool true))) (.t 169)⟩,
    ⟨some 171, none, .pick (.t 159) (.t 170) (.c (.g (.bool false)))⟩,
    ⟨some 172, none, .mov (.t 171)⟩,
    ⟨some 173, (some (172, true)), .call (.c (.g (.fn 32))) []⟩,
    ⟨some 174, none, .pick (.t 172) (.t 173) (.c (.g (.bool false)))⟩,
    ⟨some 6, none, .mov (.t 174)⟩]) <|
 .ret⟩
def h10 : List (List Nat) := [[3, 4, 5], [3, 4, 5, 29], [3, 4, 5], [6], [3, 4, 5, 7], [3, 4, 5, 7, 8, 9], [3, 4, 5, 7, 8, 9, 43], [3, 4, 5, 7, 8], [3, 8, 9, 11, 12], [6], [3, 4, 5, 7, 8, 13, 14, 15], [3, 4, 5, 8, 105], [3, 4, 5, 8], [6], [4, 5, 8, 16, 17, 18], [4, 5, 16, 17, 18, 19, 20, 21], [4, 5, 16, 17, 18, 19, 20, 21, 130], [16, 17, 18, 19, 20, 21], [6], [6]]
theorem c10 : cFunc Try.prog 10 false h10 = some F10 := by kernel_rfl

def L11_0 : IC :=
 .seq (.seq (.reg [2, 4, 7, 8, 10, 47] [⟨some 44, none, .mov (.t 10)⟩,
     ⟨some 45, none, .mov (.t 2)⟩,
     ⟨some 46, none, .len (.t 45)⟩,
     ⟨some 47, none, .bin .lss (.t 44) (.t 46)⟩]) <|
  .cond [2, 4, 7, 8, 10] (.t 47)
   (.skip)
   (.exit 0)) <|
 .seq (.block [2, 4, 7, 8, 10] 1 <|
  .seq (.drw [2, 4, 7, 8, 10, 11] 1 <|
   .take ⟨some 51, none, .load true 2 (.t 8)⟩ <|
   .take ⟨some 52, none, .mov (.t 2)⟩ <|
   .take ⟨some 53, none, .mov (.t 10)⟩ <|
   .take ⟨some 54, none, .iaddr 2 (.t 52) (.t 53)⟩ <|
   .take ⟨some 55, none, .iaddrA 2 1 (.t 54) (.c (.g (.int .i64 0)))⟩ <|
   .take ⟨some 56, none, .load false 1 (.t 55)⟩ <|
   .take ⟨some 57, none, .mov (.t 2)⟩ <|
   .take ⟨some 58, none, .mov (.t 10)⟩ <|
   .take ⟨some 59, none, .iaddr 2 (.t 57) (.t 58)⟩ <|
   .take ⟨some 60, none, .iaddrA 2 1 (.t 59) (.c (.g (.int .i64 1)))⟩ <|
   .take ⟨some 61, none, .load false 1 (.t 60)⟩ <|
   .take ⟨some 62, none, .mov (.t 10)⟩ <|
   .take ⟨some 63, none, .build [.g (.int .i64 0), .g (.int .i64 0), .g (.int .i64 0), .g (.int .i64 0), .g (.int .i64 0), .g (.int .i64 0), .g (.bool false), .g (.nsl), .g (.nsl)] [(3, 1, (.t 62))]⟩ <|
   .alt ⟨some 64, none, .call (.c (.g (.fn 35))) [(.t 51), (.t 56), (.t 61), (.t 63)]⟩
   (.take ⟨some 50, none, .mov (.t 64)⟩ <|
    .take ⟨some 65, none, .ext 0 (.t 50)⟩ <|
    .take ⟨some 66, none, .ext 1 (.t 50)⟩ <|
    .one ⟨some 11, none, .allocAt 0 [.s 11, .s 2]⟩ <|
    .free <|
    .one ⟨none, none, .store 2 (.t 11) (.t 65)⟩ <|
    .take ⟨some 12, none, .mov (.t 66)⟩ <|
    .leaf)
   (.one ⟨some 11, none, .allocAt 0 [.s 11, .s 2]⟩ <|
    .one ⟨some 64, none, .call (.c (.g (.fn 35))) [(.t 51), (.t 56), (.t 61), (.t 63)]⟩ <|
    .take ⟨some 50, none, .mov (.t 64)⟩ <|
    .take ⟨some 65, none, .ext 0 (.t 50)⟩ <|
    .take ⟨some 66, none, .ext 1 (.t 50)⟩ <|
    .free <|
    .one ⟨none, none, .store 2 (.t 11) (.t 65)⟩ <|
    .take ⟨some 12, none, .mov (.t 66)⟩ <|
    .leaf)) <|
  .seq (.reg [2, 4, 7, 8, 10] [⟨some 67, none, .load true 2 (.t 11)⟩,
     ⟨none, none, .store 2 (.t 8) (.t 67)⟩]) <|
  .seq (.reg [2, 4, 7, 8, 10, 13, 14, 15] [⟨some 69, none, .load true 2 (.t 8)⟩,
     ⟨some 70, none, .iaddrA 2 1 (.t 4) (.c (.g (.int .i64 0)))⟩,
     ⟨some 71, none, .load false 1 (.t 70)⟩,
     ⟨some 72, none, .iaddrA 2 1 (.t 4) (.c (.g (.int .i64 1)))⟩,
     ⟨some 73, none, .load false 1 (.t 72)⟩,
     ⟨some 74, none, .call (.c (.g (.fn 33))) [(.t 69), (.t 71), (.t 73)]⟩,
     ⟨some 68, none, .mov (.t 74)⟩,
     ⟨some 75, none, .ext 0 (.t 68)⟩,
     ⟨some 76, none, .ext 1 (.t 68)⟩,
     ⟨some 77, none, .ext 2 (.t 68)⟩,
     ⟨some 13, none, .alloc [.z (.int .i64 0), .z (.int .i64 0), .z (.int .i64 0), .z (.int .i64 0), .z (.int .i64 0), .z (.int .i64 0), .z (.bool false), .s 6, .s 8]⟩,
     ⟨none, none, .store 9 (.t 13) (.t 75)⟩,
     ⟨some 14, none, .mov (.t 76)⟩,
     ⟨some 15, none, .mov (.t 77)⟩]) <|
  .seq (.reg [2, 4, 7, 8, 10, 92] [⟨some 78, none, .mov (.t 14)⟩,
     ⟨some 79, none, .mov (.t 78)⟩,
     ⟨some 80, (some (79, true)), .load true 9 (.t 13)⟩,
     ⟨some 81, (some (79, true)), .load true 9 (.t 7)⟩,
     ⟨some 82, (some (79, true)), .call (.c (.g (.fn 37))) [(.t 80), (.t 81)]⟩,
     ⟨some 83, (some (79, true)), .un .not (.t 82)⟩,
     ⟨some 84, none, .pick (.t 79) (.t 83) (.c (.g (.bool false)))⟩,
     ⟨some 85, none, .mov (.t 84)⟩,
     ⟨some 86, (some (85, false)), .mov (.t 14)⟩,
     ⟨some 87, (some (85, false)), .un .not (.t 86)⟩,
     ⟨some 88, (some (85, false)), .mov (.t 87)⟩,
     ⟨some 89, (some (88, true)), .mov (.t 15)⟩,
     ⟨some 90, (some (88, true)), .bin .neq (.t 89) (.c (.g (.int .i64 7)))⟩,
     ⟨some 91, (some (85, false)), .pick (.t 88) (.t 90) (.c (.g (.bool false)))⟩,
     ⟨some 92, none, .pick (.t 85) (.c (.g (.bool true))) (.t 91)⟩]) <|
  .cond [2, 4, 7, 8, 10] (.t 92)
   (.seq (.reg [6] [⟨some 6, none, .mov (.c (.g (.bool false)))⟩]) <|
    .ret)
   (.skip)) <|
 .reg [2, 4, 7, 8, 10] [⟨some 48, none, .mov (.t 10)⟩,
   ⟨some 49, none, .bin .add (.t 48) (.c (.g (.int .i64 1)))⟩,
   ⟨some 10, none, .mov (.t 49)⟩]
def F11 : IFunc := ⟨3, 94, [.tmp 6], false,
 .seq (.reg [2, 3, 4] [⟨some 3, none, .box (.t 0)⟩,
    ⟨some 4, none, .box (.t 1)⟩,
    ⟨some 6, none, .mov (.c (.g (.bool false)))⟩]) <|
 .seq (.seq (.reg [2, 3, 4, 28] [⟨some 16, none, .load true 2 (.t 3)⟩,
     ⟨some 17, none, .call (.c (.g (.fn 30))) [(.t 16)]⟩,
     ⟨some 18, none, .un .not (.t 17)⟩,
     ⟨some 19, none, .mov (.t 18)⟩,
     ⟨some 20, (some (19, false)), .load true 2 (.t 3)⟩,
     ⟨some 21, (some (19, false)), .call (.c (.g (.fn 39))) [(.t 20)]⟩,
     ⟨some 22, (some (19, false)), .un .not (.t 21)⟩,
     ⟨some 23, none, .pick (.t 19) (.c (.g (.bool true))) (.t 22)⟩,
     ⟨some 24, none, .mov (.t 23)⟩,
     ⟨some 25, (some (24, false)), .mov (.t 2)⟩,
     ⟨some 26, (some (24, false)), .len (.t 25)⟩,
     ⟨some 27, (some (24, false)), .bin .gtr (.t 26) (.c (.g (.int .i64 30)))⟩,
     ⟨some 28, none, .pick (.t 24) (.c (.g (.bool true))) (.t 27)⟩]) <|
  .cond [2, 3, 4] (.t 28)
   (.seq (.reg [6] [⟨some 29, none, .call (.c (.g (.fn 32))) []⟩,
       ⟨some 6, none, .mov (.t 29)⟩]) <|
    .ret)
   (.skip)) <|
 .seq (.reg [2, 3, 4, 7] [⟨some 30, none, .build [.g (.int .i64 0), .g (.int .i64 0), .g (.int .i64 0), .g (.int .i64 0), .g (.int .i64 0), .g (.int .i64 0), .g (.bool false), .g (.nsl), .g (.nsl)] [(3, 1, (.c (.g (.int .i64 77)))), (6, 1, (.c (.g (.bool true))))]⟩,
    ⟨some 7, none, .alloc [.z (.int .i64 0), .z (.int .i64 0), .z (.int .i64 0), .z (.int .i64 0), .z (.int .i64 0), .z (.int .i64 0), .z (.bool false), .s 6, .s 8]⟩,
    ⟨none, none, .store 9 (.t 7) (.t 30)⟩]) <|
 .seq (.reg [2, 4, 7, 8, 9] [⟨some 32, none, .load true 2 (.t 3)⟩,
    ⟨some 33, none, .iaddrA 2 1 (.t 4) (.c (.g (.int .i64 0)))⟩,
    ⟨some 34, none, .load false 1 (.t 33)⟩,
    ⟨some 35, none, .iaddrA 2 1 (.t 4) (.c (.g (.int .i64 1)))⟩,
    ⟨some 36, none, .load false 1 (.t 35)⟩,
    ⟨some 37, none, .load true 9 (.t 7)⟩,
    ⟨some 38, none, .call (.c (.g (.fn 35))) [(.t 32), (.t 34), (.t 36), (.t 37)]⟩,
    ⟨some 31, none, .mov (.t 38)⟩,
    ⟨some 39, none, .ext 0 (.t 31)⟩,
    ⟨some 40, none, .ext 1 (.t 31)⟩,
    ⟨some 8, none, .alloc [.s 11, .s 2]⟩,
    ⟨none, none, .store 2 (.t 8) (.t 39)⟩,
    ⟨some 9, none, .mov (.t 40)⟩]) <|
 .seq (.seq (.reg [2, 4, 7, 8, 42] [⟨some 41, none, .mov (.t 9)⟩,
     ⟨some 42, none, .bin .neq (.t 41) (.c (.g (.int .i64 0)))⟩]) <|
  .cond [2, 4, 7, 8] (.t 42)
   (.seq (.reg [6] [⟨some 43, none, .call (.c (.g (.fn 32))) []⟩,
       ⟨some 6, none, .mov (.t 43)⟩]) <|
    .ret)
   (.skip)) <|
 .seq (.seq (.reg [2, 4, 7, 8, 10] [⟨some 10, none, .mov (.c (.g (.int .i64 0)))⟩]) <|
  .block [] 0 <|
  .loop [2, 4, 7, 8, 10] [] L11_0) <|
 .seq (.reg [6] [⟨some 93, none, .call (.c (.g (.fn 32))) []⟩,
    ⟨some 6, none, .mov (.t 93)⟩]) <|
 .ret⟩
def h11 : List (List Nat) := [[2, 3, 4], [2, 3, 4, 28], [2, 3, 4], [6], [2, 3, 4, 7], [2, 4, 7, 8, 9], [2, 4, 7, 8, 42], [2, 4, 7, 8], [6], [2, 4, 7, 8, 10], [], [2, 4, 7, 8, 10], [2, 4, 7, 8, 10, 47], [2, 4, 7, 8, 10], [2, 4, 7, 8, 10], [2, 4, 7, 8, 10, 11], [], [2, 4, 7, 8, 10], [2, 4, 7, 8, 10, 13, 14, 15], [2, 4, 7, 8, 10, 92], [2, 4, 7, 8, 10], [6], [2, 4, 7, 8, 10], [6]]
theorem c11 : cFunc Try.prog 11 false h11 = some F11 := by kernel_rfl

def L12_0 : IC :=
 .seq (.seq (.reg [0, 1, 5, 6, 7, 24] [⟨some 21, none, .mov (.t 7)⟩,
     ⟨some 22, none, .mov (.t 0)⟩,
     ⟨some 23, none, .len (.t 22)⟩,
     ⟨some 24, none, .bin .lss (.t 21) (.t 23)⟩]) <|
  .cond [0, 1, 5, 6, 7] (.t 24)
   (.skip)
   (.exit 0)) <|
 .seq (.block [0, 1, 5, 6, 7] 1 <|
  .seq (.seq (.reg [0, 1, 5, 7, 39] [⟨some 27, none, .mov (.t 0)⟩,
      ⟨some 28, none, .mov (.t 7)⟩,
      ⟨some 29, none, .iaddr 1 (.t 27) (.t 28)⟩,
      ⟨some 30, none, .load false 1 (.t 29)⟩,
      ⟨some 31, none, .mov (.t 6)⟩,
      ⟨some 32, none, .bin .leq (.t 30) (.t 31)⟩,
      ⟨some 33, none, .mov (.t 32)⟩,
      ⟨some 34, (some (33, false)), .mov (.t 0)⟩,
      ⟨some 35, (some (33, false)), .mov (.t 7)⟩,
      ⟨some 36, (some (33, false)), .iaddr 1 (.t 34) (.t 35)⟩,
      ⟨some 37, (some (33, false)), .load false 1 (.t 36)⟩,
      ⟨some 38, (some (33, false)), .bin .gtr (.t 37) (.c (.g (.int .i64 1099511627775)))⟩,
      ⟨some 39, none, .pick (.t 33) (.c (.g (.bool true))) (.t 38)⟩]) <|
   .cond [0, 1, 5, 7] (.t 39)
    (.seq (.reg [4] [⟨some 40, none, .call (.c (.g (.fn 32))) []⟩,
        ⟨some 4, none, .mov (.t 40)⟩]) <|
     .ret)
    (.skip)) <|
  .seq (.reg [0, 1, 5, 6, 7] [⟨some 41, none, .mov (.t 0)⟩,
     ⟨some 42, none, .mov (.t 7)⟩,
     ⟨some 43, none, .iaddr 1 (.t 41) (.t 42)⟩,
     ⟨some 44, none, .load false 1 (.t 43)⟩,
     ⟨some 6, none, .mov (.t 44)⟩]) <|
  .seq (.drw [0, 1, 5, 6, 7, 8, 9] 1 <|
   .take ⟨some 46, none, .load true 2 (.t 5)⟩ <|
   .take ⟨some 47, none, .mov (.t 0)⟩ <|
   .take ⟨some 48, none, .mov (.t 7)⟩ <|
   .take ⟨some 49, none, .iaddr 1 (.t 47) (.t 48)⟩ <|
   .take ⟨some 50, none, .load false 1 (.t 49)⟩ <|
   .take ⟨some 51, none, .mov (.t 7)⟩ <|
   .take ⟨some 52, none, .bin .add (.t 51) (.c (.g (.int .i64 1)))⟩ <|
   .take ⟨some 53, none, .build [.g (.int .i64 0), .g (.int .i64 0), .g (.int .i64 0), .g (.int .i64 0), .g (.int .i64 0), .g (.int .i64 0), .g (.bool false), .g (.nsl), .g (.nsl)] [(3, 1, (.t 52))]⟩ <|
   .alt ⟨some 54, none, .call (.c (.g (.fn 35))) [(.t 46), (.c (.g (.int .i64 3))), (.t 50), (.t 53)]⟩
   (.take ⟨some 45, none, .mov (.t 54)⟩ <|
    .take ⟨some 55, none, .ext 0 (.t 45)⟩ <|
    .take ⟨some 56, none, .ext 1 (.t 45)⟩ <|
    .one ⟨some 8, none, .allocAt 0 [.s 11, .s 2]⟩ <|
    .free <|
    .one ⟨none, none, .store 2 (.t 8) (.t 55)⟩ <|
    .take ⟨some 9, none, .mov (.t 56)⟩ <|
    .leaf)
   (.one ⟨some 8, none, .allocAt 0 [.s 11, .s 2]⟩ <|
    .one ⟨some 54, none, .call (.c (.g (.fn 35))) [(.t 46), (.c (.g (.int .i64 3))), (.t 50), (.t 53)]⟩ <|
    .take ⟨some 45, none, .mov (.t 54)⟩ <|
    .take ⟨some 55, none, .ext 0 (.t 45)⟩ <|
    .take ⟨some 56, none, .ext 1 (.t 45)⟩ <|
    .free <|
    .one ⟨none, none, .store 2 (.t 8) (.t 55)⟩ <|
    .take ⟨some 9, none, .mov (.t 56)⟩ <|
    .leaf)) <|
  .seq (.seq (.reg [0, 1, 5, 6, 7, 8, 58] [⟨some 57, none, .mov (.t 9)⟩,
      ⟨some 58, none, .bin .neq (.t 57) (.c (.g (.int .i64 0)))⟩]) <|
   .cond [0, 1, 5, 6, 7, 8] (.t 58)
    (.seq (.reg [4] [⟨some 4, none, .mov (.c (.g (.bool false)))⟩]) <|
     .ret)
    (.skip)) <|
  .seq (.drw [0, 1, 5, 6, 7, 10, 11] 1 <|
   .take ⟨some 60, none, .load true 2 (.t 8)⟩ <|
   .take ⟨some 61, none, .mov (.t 1)⟩ <|
   .take ⟨some 62, none, .bin .and (.t 61) (.c (.g (.int .i64 3)))⟩ <|
   .take ⟨some 63, none, .bin .add (.c (.g (.int .i64 4))) (.t 62)⟩ <|
   .take ⟨some 64, none, .mov (.t 0)⟩ <|
   .take ⟨some 65, none, .mov (.t 7)⟩ <|
   .take ⟨some 66, none, .iaddr 1 (.t 64) (.t 65)⟩ <|
   .take ⟨some 67, none, .load false 1 (.t 66)⟩ <|
   .take ⟨some 68, none, .build [.g (.int .i64 0), .g (.int .i64 0), .g (.int .i64 0), .g (.int .i64 0), .g (.int .i64 0), .g (.int .i64 0), .g (.bool false), .g (.nsl), .g (.nsl)] []⟩ <|
   .alt ⟨some 69, none, .call (.c (.g (.fn 35))) [(.t 60), (.t 63), (.t 67), (.t 68)]⟩
   (.take ⟨some 59, none, .mov (.t 69)⟩ <|
    .take ⟨some 70, none, .ext 0 (.t 59)⟩ <|
    .take ⟨some 71, none, .ext 1 (.t 59)⟩ <|
    .one ⟨some 10, none, .allocAt 0 [.s 11, .s 2]⟩ <|
    .free <|
    .one ⟨none, none, .store 2 (.t 10) (.t 70)⟩ <|
    .take ⟨some 11, none, .mov (.t 71)⟩ <|
    .leaf)
   (.one ⟨some 10, none, .allocAt 0 [.s 11, .s 2]⟩ <|
    .one ⟨some 69, none, .call (.c (.g (.fn 35))) [(.t 60), (.t 63), (.t 67), (.t 68)]⟩ <|
    .take ⟨some 59, none, .mov (.t 69)⟩ <|
    .take ⟨some 70, none, .ext 0 (.t 59)⟩ <|
    .take ⟨some 71, none, .ext 1 (.t 59)⟩ <|
    .free <|
    .one ⟨none, none, .store 2 (.t 10) (.t 70)⟩ <|
    .take ⟨some 11, none, .mov (.t 71)⟩ <|
    .leaf)) <|
  .seq (.seq (.reg [0, 1, 5, 6, 7, 10, 73] [⟨some 72, none, .mov (.t 11)⟩,
      ⟨some 73, none, .bin .neq (.t 72) (.c (.g (.int .i64 0)))⟩]) <|
   .cond [0, 1, 5, 6, 7, 10] (.t 73)
    (.seq (.reg [4] [⟨some 4, none, .mov (.c (.g (.bool false)))⟩]) <|
     .ret)
    (.skip)) <|
  .reg [0, 1, 5, 6, 7] [⟨some 74, none, .load true 2 (.t 10)⟩,
    ⟨none, none, .store 2 (.t 5) (.t 74)⟩]) <|
 .reg [0, 1, 5, 6, 7] [⟨some 25, none, .mov (.t 7)⟩,
   ⟨some 26, none, .bin .add (.t 25) (.c (.g (.int .i64 1)))⟩,
   ⟨some 7, none, .mov (.t 26)⟩]
def L12_1 : IC :=
 .seq (.seq (.reg [0, 5, 12, 78] [⟨some 75, none, .mov (.t 12)⟩,
     ⟨some 76, none, .mov (.t 0)⟩,
     ⟨some 77, none, .len (.t 76)⟩,
     ⟨some 78, none, .bin .lss (.t 75) (.t 77)⟩]) <|
  .cond [0, 5, 12] (.t 78)
   (.skip)
   (.exit 2)) <|
 .seq (.block [0, 5, 12] 3 <|
  .seq (.drw [0, 5, 12, 13, 14, 15] 1 <|
   .take ⟨some 82, none, .load true 2 (.t 5)⟩ <|
   .take ⟨some 83, none, .mov (.t 0)⟩ <|
   .take ⟨some 84, none, .mov (.t 12)⟩ <|
   .take ⟨some 85, none, .iaddr 1 (.t 83) (.t 84)⟩ <|
   .take ⟨some 86, none, .load false 1 (.t 85)⟩ <|
   .alt ⟨some 87, none, .call (.c (.g (.fn 33))) [(.t 82), (.c (.g (.int .i64 3))), (.t 86)]⟩
   (.take ⟨some 81, none, .mov (.t 87)⟩ <|
    .take ⟨some 88, none, .ext 0 (.t 81)⟩ <|
    .take ⟨some 89, none, .ext 1 (.t 81)⟩ <|
    .take ⟨some 90, none, .ext 2 (.t 81)⟩ <|
    .one ⟨some 13, none, .allocAt 0 [.z (.int .i64 0), .z (.int .i64 0), .z (.int .i64 0), .z (.int .i64 0), .z (.int .i64 0), .z (.int .i64 0), .z (.bool false), .s 6, .s 8]⟩ <|
    .free <|
    .one ⟨none, none, .store 9 (.t 13) (.t 88)⟩ <|
    .take ⟨some 14, none, .mov (.t 89)⟩ <|
    .take ⟨some 15, none, .mov (.t 90)⟩ <|
    .leaf)
   (.one ⟨some 13, none, .allocAt 0 [.z (.int .i64 0), .z (.int .i64 0), .z (.int .i64 0), .z (.int .i64 0), .z (.int .i64 0), .z (.int .i64 0), .z (.bool false), .s 6, .s 8]⟩ <|
    .one ⟨some 87, none, .call (.c (.g (.fn 33))) [(.t 82), (.c (.g (.int .i64 3))), (.t 86)]⟩ <|
    .take ⟨some 81, none, .mov (.t 87)⟩ <|
    .take ⟨some 88, none, .ext 0 (.t 81)⟩ <|
    .take ⟨some 89, none, .ext 1 (.t 81)⟩ <|
    .take ⟨some 90, none, .ext 2 (.t 81)⟩ <|
    .free <|
    .one ⟨none, none, .store 9 (.t 13) (.t 88)⟩ <|
    .take ⟨some 14, none, .mov (.t 89)⟩ <|
    .take ⟨some 15, none, .mov (.t 90)⟩ <|
    .leaf)) <|
  .seq (.reg [0, 5, 12, 120] [⟨some 91, none, .mov (.t 12)⟩,
     ⟨some 92, none, .bin .add (.t 91) (.c (.g (.int .i64 4)))⟩,
     ⟨some 93, none, .mov (.t 0)⟩,
     ⟨some 94, none, .len (.t 93)⟩,
     ⟨some 95, none, .bin .lss (.t 92) (.t 94)⟩,
     ⟨some 96, none, .mov (.t 95)⟩,
     ⟨some 97, (some (96, true)), .mov (.t 14)⟩,
     ⟨some 98, (some (96, true)), .mov (.t 97)⟩,
     ⟨some 99, (some (98, false)), .mov (.t 15)⟩,
     ⟨some 100, (some (98, false)), .bin .neq (.t 99) (.c (.g (.int .i64 7)))⟩,
     ⟨some 101, (some (96, true)), .pick (.t 98) (.c (.g (.bool true))) (.t 100)⟩,
     ⟨some 102, none, .pick (.t 96) (.t 101) (.c (.g (.bool false)))⟩,
     ⟨some 103, none, .mov (.t 102)⟩,
     ⟨some 104, (some (103, false)), .mov (.t 12)⟩,
     ⟨some 105, (some (103, false)), .bin .add (.t 104) (.c (.g (.int .i64 4)))⟩,
     ⟨some 106, (some (103, false)), .mov (.t 0)⟩,
     ⟨some 107, (some (103, false)), .len (.t 106)⟩,
     ⟨some 108, (some (103, false)), .bin .geq (.t 105) (.t 107)⟩,
     ⟨some 109, (some (103, false)), .mov (.t 108)⟩,
     ⟨some 110, (some (109, true)), .mov (.t 14)⟩,
     ⟨some 111, (some (109, true)), .un .not (.t 110)⟩,
     ⟨some 112, (some (109, true)), .mov (.t 111)⟩,
     ⟨some 113, (some (112, false)), .faddr 3 (.t 13)⟩,
     ⟨some 114, (some (112, false)), .load false 1 (.t 113)⟩,
     ⟨some 115, (some (112, false)), .mov (.t 12)⟩,
     ⟨some 116, (some (112, false)), .bin .add (.t 115) (.c (.g (.int .i64 1)))⟩,
     ⟨some 117, (some (112, false)), .bin .neq (.t 114) (.t 116)⟩,
     ⟨some 118, (some (109, true)), .pick (.t 112) (.c (.g (.bool true))) (.t 117)⟩,
     ⟨some 119, (some (103, false)), .pick (.t 109) (.t 118) (.c (.g (.bool false)))⟩,
     ⟨some 120, none, .pick (.t 103) (.c (.g (.bool true))) (.t 119)⟩]) <|
  .cond [0, 5, 12] (.t 120)
   (.seq (.reg [4] [⟨some 4, none, .mov (.c (.g (.bool false)))⟩]) <|
    .ret)
   (.skip)) <|
 .reg [0, 5, 12] [⟨some 79, none, .mov (.t 12)⟩,
   ⟨some 80, none, .bin .add (.t 79) (.c (.g (.int .i64 1)))⟩,
   ⟨some 12, none, .mov (.t 80)⟩]
def F12 : IFunc := ⟨2, 126, [.tmp 4], false,
 .seq (.reg [0, 1] [⟨some 4, none, .mov (.c (.g (.bool false)))⟩]) <|
 .seq (.seq (.reg [0, 1, 18] [⟨some 16, none, .mov (.t 0)⟩,
     ⟨some 17, none, .len (.t 16)⟩,
     ⟨some 18, none, .bin .gtr (.t 17) (.c (.g (.int .i64 30)))⟩]) <|
  .cond [0, 1] (.t 18)
   (.seq (.reg [4] [⟨some 19, none, .call (.c (.g (.fn 32))) []⟩,
       ⟨some 4, none, .mov (.t 19)⟩]) <|
    .ret)
   (.skip)) <|
 .seq (.reg [0, 1, 5] [⟨some 20, none, .build [.g (.nsl), .g (.nsl)] []⟩,
    ⟨some 5, none, .alloc [.s 11, .s 2]⟩,
    ⟨none, none, .store 2 (.t 5) (.t 20)⟩]) <|
 .seq (.reg [0, 1, 5, 6] [⟨some 6, none, .mov (.c (.g (.int .i64 0)))⟩]) <|
 .seq (.seq (.reg [0, 1, 5, 6, 7] [⟨some 7, none, .mov (.c (.g (.int .i64 0)))⟩]) <|
  .block [0, 5] 0 <|
  .loop [0, 1, 5, 6, 7] [] L12_0) <|
 .seq (.seq (.reg [0, 5, 12] [⟨some 12, none, .mov (.c (.g (.int .i64 0)))⟩]) <|
  .block [5] 2 <|
  .loop [0, 5, 12] [] L12_1) <|
 .seq (.reg [4] [⟨some 121, none, .load true 2 (.t 5)⟩,
    ⟨some 122, none, .call (.c (.g (.fn 39))) [(.t 121)]⟩,
    ⟨some 123, none, .mov (.t 122)⟩,
    ⟨some 124, (some (123, true)), .call (.c (.g (.fn 32))) []⟩,
    ⟨some 125, none, .pick (.t 123) (.t 124) (.c (.g (.bool false)))⟩,
    ⟨some 4, none, .mov (.t 125)⟩]) <|
 .ret⟩
def h12 : List (List Nat) := [[0, 1], [0, 1, 18], [0, 1], [4], [0, 1, 5], [0, 1, 5, 6], [0, 1, 5, 6, 7], [0, 5], [0, 1, 5, 6, 7], [0, 1, 5, 6, 7, 24], [0, 1, 5, 6, 7], [0, 1, 5, 6, 7], [0, 1, 5, 7, 39], [0, 1, 5, 7], [4], [0, 1, 5, 6, 7], [0, 1, 5, 6, 7, 8, 9], [], [0, 1, 5, 6, 7, 8, 58], [0, 1, 5, 6, 7, 8], [4], [0, 1, 5, 6, 7, 10, 11], [], [0, 1, 5, 6, 7, 10, 73], [0, 1, 5, 6, 7, 10], [4], [0, 1, 5, 6, 7], [0, 1, 5, 6, 7], [0, 5, 12], [5], [0, 5, 12], [0, 5, 12, 78], [0, 5, 12], [0, 5, 12], [0, 5, 12, 13, 14, 15], [], [0, 5, 12, 120], [0, 5, 12], [4], [0, 5, 12], [4]]
theorem c12 : cFunc Try.prog 12 false h12 = some F12 := by kernel_rfl

def L13_0 : IC :=
 .seq (.seq (.reg [0, 3, 4, 5, 8, 10, 11, 67] [⟨some 64, none, .mov (.t 11)⟩,
     ⟨some 65, none, .mov (.t 10)⟩,
     ⟨some 66, none, .len (.t 65)⟩,
     ⟨some 67, none, .bin .lss (.t 64) (.t 66)⟩]) <|
  .cond [0, 3, 4, 5, 8, 10, 11] (.t 67)
   (.skip)
   (.exit 2)) <|
 .seq (.block [0, 3, 4, 5, 8, 10, 11] 3 <|
  .seq (.drw [0, 3, 4, 5, 8, 10, 11, 93] 0 <|
   .take ⟨some 70, none, .mov (.t 10)⟩ <|
   .take ⟨some 71, none, .mov (.t 11)⟩ <|
   .take ⟨some 72, none, .iaddr 1 (.t 70) (.t 71)⟩ <|
   .take ⟨some 73, none, .load false 1 (.t 72)⟩ <|
   .take ⟨some 74, none, .load true 2 (.t 8)⟩ <|
   .take ⟨some 75, none, .mov (.t 5)⟩ <|
   .one ⟨some 76, none, .call (.c (.g (.fn 40))) [(.t 74), (.t 75)]⟩ <|
   .take ⟨some 77, none, .bin .leq (.t 73) (.t 76)⟩ <|
   .take ⟨some 78, none, .mov (.t 77)⟩ <|
   .take ⟨some 79, (some (78, false)), .mov (.t 11)⟩ <|
   .take ⟨some 80, (some (78, false)), .bin .gtr (.t 79) (.c (.g (.int .i64 0)))⟩ <|
   .take ⟨some 81, (some (78, false)), .mov (.t 80)⟩ <|
   .take ⟨some 82, (some (81, true)), .mov (.t 10)⟩ <|
   .take ⟨some 83, (some (81, true)), .mov (.t 11)⟩ <|
   .take ⟨some 84, (some (81, true)), .bin .sub (.t 83) (.c (.g (.int .i64 1)))⟩ <|
   .take ⟨some 85, (some (81, true)), .iaddr 1 (.t 82) (.t 84)⟩ <|
   .take ⟨some 87, (some (81, true)), .mov (.t 10)⟩ <|
   .take ⟨some 88, (some (81, true)), .mov (.t 11)⟩ <|
   .take ⟨some 89, (some (81, true)), .iaddr 1 (.t 87) (.t 88)⟩ <|
   .alt ⟨some 86, (some (81, true)), .load false 1 (.t 85)⟩
   (.one ⟨some 90, (some (81, true)), .load false 1 (.t 89)⟩ <|
    .take ⟨some 91, (some (81, true)), .bin .geq (.t 86) (.t 90)⟩ <|
    .take ⟨some 92, (some (78, false)), .pick (.t 81) (.t 91) (.c (.g (.bool false)))⟩ <|
    .take ⟨some 93, none, .pick (.t 78) (.c (.g (.bool true))) (.t 92)⟩ <|
    .leaf)
   (.one ⟨some 90, (some (81, true)), .load false 1 (.t 89)⟩ <|
    .one ⟨some 86, (some (81, true)), .load false 1 (.t 85)⟩ <|
    .take ⟨some 91, (some (81, true)), .bin .geq (.t 86) (.t 90)⟩ <|
    .take ⟨some 92, (some (78, false)), .pick (.t 81) (.t 91) (.c (.g (.bool false)))⟩ <|
    .take ⟨some 93, none, .pick (.t 78) (.c (.g (.bool true))) (.t 92)⟩ <|
    .leaf)) <|
  .cond [0, 3, 4, 5, 8, 10, 11] (.t 93)
   (.seq (.reg [2] [⟨some 2, none, .mov (.c (.g (.bool false)))⟩]) <|
    .ret)
   (.skip)) <|
 .reg [0, 3, 4, 5, 8, 10, 11] [⟨some 68, none, .mov (.t 11)⟩,
   ⟨some 69, none, .bin .add (.t 68) (.c (.g (.int .i64 1)))⟩,
   ⟨some 11, none, .mov (.t 69)⟩]
def L13_1 : IC :=
 .seq (.seq (.reg [0, 3, 4, 20] [⟨some 17, none, .mov (.t 4)⟩,
     ⟨some 18, none, .mov (.t 0)⟩,
     ⟨some 19, none, .len (.t 18)⟩,
     ⟨some 20, none, .bin .lss (.t 17) (.t 19)⟩]) <|
  .cond [0, 3, 4] (.t 20)
   (.skip)
   (.exit 0)) <|
 .seq (.block [0, 3, 4] 1 <|
  .seq (.reg [0, 3, 4, 5] [⟨some 23, none, .mov (.t 0)⟩,
     ⟨some 24, none, .mov (.t 4)⟩,
     ⟨some 25, none, .iaddr 2 (.t 23) (.t 24)⟩,
     ⟨some 26, none, .iaddrA 2 1 (.t 25) (.c (.g (.int .i64 0)))⟩,
     ⟨some 27, none, .load false 1 (.t 26)⟩,
     ⟨some 5, none, .mov (.t 27)⟩]) <|
  .seq (.reg [0, 3, 4, 5, 6] [⟨some 28, none, .load true 2 (.t 3)⟩,
     ⟨some 29, none, .mov (.t 5)⟩,
     ⟨some 30, none, .call (.c (.g (.fn 40))) [(.t 28), (.t 29)]⟩,
     ⟨some 6, none, .mov (.t 30)⟩]) <|
  .seq (.reg [0, 3, 4, 5, 6, 7] [⟨some 31, none, .load true 2 (.t 3)⟩,
     ⟨some 32, none, .mov (.t 5)⟩,
     ⟨some 33, none, .call (.c (.g (.fn 41))) [(.t 31), (.t 32)]⟩,
     ⟨some 34, none, .len (.t 33)⟩,
     ⟨some 35, none, .bin .gtr (.t 34) (.c (.g (.int .i64 0)))⟩,
     ⟨some 7, none, .mov (.t 35)⟩]) <|
  .seq (.drw [0, 3, 4, 5, 6, 7, 8, 9] 1 <|
   .take ⟨some 37, none, .load true 2 (.t 3)⟩ <|
   .take ⟨some 38, none, .mov (.t 5)⟩ <|
   .take ⟨some 39, none, .mov (.t 0)⟩ <|
   .take ⟨some 40, none, .mov (.t 4)⟩ <|
   .take ⟨some 41, none, .iaddr 2 (.t 39) (.t 40)⟩ <|
   .take ⟨some 42, none, .iaddrA 2 1 (.t 41) (.c (.g (.int .i64 1)))⟩ <|
   .take ⟨some 43, none, .load false 1 (.t 42)⟩ <|
   .take ⟨some 44, none, .mov (.t 4)⟩ <|
   .take ⟨some 45, none, .build [.g (.int .i64 0), .g (.int .i64 0), .g (.int .i64 0), .g (.int .i64 0), .g (.int .i64 0), .g (.int .i64 0), .g (.bool false), .g (.nsl), .g (.nsl)] [(3, 1, (.t 44))]⟩ <|
   .alt ⟨some 46, none, .call (.c (.g (.fn 35))) [(.t 37), (.t 38), (.t 43), (.t 45)]⟩
   (.take ⟨some 36, none, .mov (.t 46)⟩ <|
    .take ⟨some 47, none, .ext 0 (.t 36)⟩ <|
    .take ⟨some 48, none, .ext 1 (.t 36)⟩ <|
    .one ⟨some 8, none, .allocAt 0 [.s 11, .s 2]⟩ <|
    .free <|
    .one ⟨none, none, .store 2 (.t 8) (.t 47)⟩ <|
    .take ⟨some 9, none, .mov (.t 48)⟩ <|
    .leaf)
   (.one ⟨some 8, none, .allocAt 0 [.s 11, .s 2]⟩ <|
    .one ⟨some 46, none, .call (.c (.g (.fn 35))) [(.t 37), (.t 38), (.t 43), (.t 45)]⟩ <|
    .take ⟨some 36, none, .mov (.t 46)⟩ <|
    .take ⟨some 47, none, .ext 0 (.t 36)⟩ <|
    .take ⟨some 48, none, .ext 1 (.t 36)⟩ <|
    .free <|
    .one ⟨none, none, .store 2 (.t 8) (.t 47)⟩ <|
    .take ⟨some 9, none, .mov (.t 48)⟩ <|
    .leaf)) <|
  .seq (.seq (.reg [0, 3, 4, 5, 8, 60] [⟨some 49, none, .load true 2 (.t 8)⟩,
      ⟨some 50, none, .mov (.t 5)⟩,
      ⟨some 51, none, .call (.c (.g (.fn 40))) [(.t 49), (.t 50)]⟩,
      ⟨some 52, none, .mov (.t 6)⟩,
      ⟨some 53, none, .bin .lss (.t 51) (.t 52)⟩,
      ⟨some 54, none, .mov (.t 53)⟩,
      ⟨some 55, (some (54, false)), .mov (.t 9)⟩,
      ⟨some 56, (some (54, false)), .bin .eql (.t 55) (.c (.g (.int .i64 4)))⟩,
      ⟨some 57, (some (54, false)), .mov (.t 56)⟩,
      ⟨some 58, (some (57, true)), .mov (.t 7)⟩,
      ⟨some 59, (some (54, false)), .pick (.t 57) (.t 58) (.c (.g (.bool false)))⟩,
      ⟨some 60, none, .pick (.t 54) (.c (.g (.bool true))) (.t 59)⟩]) <|
   .cond [0, 3, 4, 5, 8] (.t 60)
    (.seq (.reg [2] [⟨some 2, none, .mov (.c (.g (.bool false)))⟩]) <|
     .ret)
    (.skip)) <|
  .seq (.reg [0, 3, 4, 5, 8, 10] [⟨some 61, none, .load true 2 (.t 8)⟩,
     ⟨some 62, none, .mov (.t 5)⟩,
     ⟨some 63, none, .call (.c (.g (.fn 41))) [(.t 61), (.t 62)]⟩,
     ⟨some 10, none, .mov (.t 63)⟩]) <|
  .seq (.seq (.reg [0, 3, 4, 5, 8, 10, 11] [⟨some 11, none, .mov (.c (.g (.int .i64 0)))⟩]) <|
   .block [0, 3, 4, 8, 10] 2 <|
   .loop [0, 3, 4, 5, 8, 10, 11] [] L13_0) <|
  .seq (.seq (.reg [0, 3, 4, 8, 107] [⟨some 94, none, .mov (.t 10)⟩,
      ⟨some 95, none, .len (.t 94)⟩,
      ⟨some 96, none, .bin .gtr (.t 95) (.c (.g (.int .i64 4)))⟩,
      ⟨some 97, none, .mov (.t 96)⟩,
      ⟨some 98, (some (97, false)), .load true 2 (.t 8)⟩,
      ⟨some 99, (some (97, false)), .call (.c (.g (.fn 42))) [(.t 98)]⟩,
      ⟨some 100, (some (97, false)), .len (.t 99)⟩,
      ⟨some 101, (some (97, false)), .bin .gtr (.t 100) (.c (.g (.int .i64 8)))⟩,
      ⟨some 102, none, .pick (.t 97) (.c (.g (.bool true))) (.t 101)⟩,
      ⟨some 103, none, .mov (.t 102)⟩,
      ⟨some 104, (some (103, false)), .load true 2 (.t 8)⟩,
      ⟨some 105, (some (103, false)), .call (.c (.g (.fn 39))) [(.t 104)]⟩,
      ⟨some 106, (some (103, false)), .un .not (.t 105)⟩,
      ⟨some 107, none, .pick (.t 103) (.c (.g (.bool true))) (.t 106)⟩]) <|
   .cond [0, 3, 4, 8] (.t 107)
    (.seq (.reg [2] [⟨some 2, none, .mov (.c (.g (.bool false)))⟩]) <|
     .ret)
    (.skip)) <|
  .reg [0, 3, 4] [⟨some 108, none, .load true 2 (.t 8)⟩,
    ⟨none, none, .store 2 (.t 3) (.t 108)⟩]) <|
 .reg [0, 3, 4] [⟨some 21, none, .mov (.t 4)⟩,
   ⟨some 22, none, .bin .add (.t 21) (.c (.g (.int .i64 1)))⟩,
   ⟨some 4, none, .mov (.t 22)⟩]
def F13 : IFunc := ⟨1, 110, [.tmp 2], false,
 .seq (.reg [0] [⟨some 2, none, .mov (.c (.g (.bool false)))⟩]) <|
 .seq (.seq (.reg [0, 14] [⟨some 12, none, .mov (.t 0)⟩,
     ⟨some 13, none, .len (.t 12)⟩,
     ⟨some 14, none, .bin .gtr (.t 13) (.c (.g (.int .i64 60)))⟩]) <|
  .cond [0] (.t 14)
   (.seq (.reg [2] [⟨some 15, none, .call (.c (.g (.fn 32))) []⟩,
       ⟨some 2, none, .mov (.t 15)⟩]) <|
    .ret)
   (.skip)) <|
 .seq (.reg [0, 3] [⟨some 16, none, .build [.g (.nsl), .g (.nsl)] []⟩,
    ⟨some 3, none, .alloc [.s 11, .s 2]⟩,
    ⟨none, none, .store 2 (.t 3) (.t 16)⟩]) <|
 .seq (.seq (.reg [0, 3, 4] [⟨some 4, none, .mov (.c (.g (.int .i64 0)))⟩]) <|
  .block [] 0 <|
  .loop [0, 3, 4] [] L13_1) <|
 .seq (.reg [2] [⟨some 109, none, .call (.c (.g (.fn 32))) []⟩,
    ⟨some 2, none, .mov (.t 109)⟩]) <|
 .ret⟩
def h13 : List (List Nat) := [[0], [0, 14], [0], [2], [0, 3], [0, 3, 4], [], [0, 3, 4], [0, 3, 4, 20], [0, 3, 4], [0, 3, 4], [0, 3, 4, 5], [0, 3, 4, 5, 6], [0, 3, 4, 5, 6, 7], [0, 3, 4, 5, 6, 7, 8, 9], [], [0, 3, 4, 5, 8, 60], [0, 3, 4, 5, 8], [2], [0, 3, 4, 5, 8, 10], [0, 3, 4, 5, 8, 10, 11], [0, 3, 4, 8, 10], [0, 3, 4, 5, 8, 10, 11], [0, 3, 4, 5, 8, 10, 11, 67], [0, 3, 4, 5, 8, 10, 11], [0, 3, 4, 5, 8, 10, 11], [0, 3, 4, 5, 8, 10, 11, 93], [], [0, 3, 4, 5, 8, 10, 11], [2], [0, 3, 4, 5, 8, 10, 11], [0, 3, 4, 8, 107], [0, 3, 4, 8], [2], [0, 3, 4], [0, 3, 4], [2]]
theorem c13 : cFunc Try.prog 13 false h13 = some F13 := by kernel_rfl

def F14 : IFunc := ⟨2, 16, [.tmp 4], false,
 .seq (.reg [1, 2] [⟨some 2, none, .box (.t 0)⟩,
    ⟨some 4, none, .mov (.c (.g (.bool false)))⟩]) <|
 .seq (.reg [4] [⟨some 5, none, .load true 4 (.t 2)⟩,
    ⟨some 6, none, .call (.c (.g (.fn 43))) [(.t 5)]⟩,
    ⟨some 7, none, .mov (.t 6)⟩,
    ⟨some 8, (some (7, true)), .load true 4 (.t 2)⟩,
    ⟨some 9, (some (7, true)), .call (.c (.g (.fn 44))) [(.t 8)]⟩,
    ⟨some 10, none, .pick (.t 7) (.t 9) (.c (.g (.bool false)))⟩,
    ⟨some 11, none, .mov (.t 10)⟩,
    ⟨some 12, (some (11, true)), .mov (.t 1)⟩,
    ⟨some 13, (some (11, true)), .lenS (.t 12)⟩,
    ⟨some 14, (some (11, true)), .bin .leq (.t 13) (.c (.g (.int .i64 60)))⟩,
    ⟨some 15, none, .pick (.t 11) (.t 14) (.c (.g (.bool false)))⟩,
    ⟨some 4, none, .mov (.t 15)⟩]) <|
 .ret⟩
def h14 : List (List Nat) := [[1, 2], [4]]
theorem c14 : cFunc Try.prog 14 false h14 = some F14 := by kernel_rfl

def F15 : IFunc := ⟨0, 158, [.tmp 0], false,
 .seq (.reg [] [⟨some 0, none, .mov (.c (.g (.bool false)))⟩]) <|
 .seq (.reg [1] [⟨some 31, none, .call (.c (.g (.fn 45))) []⟩,
    ⟨some 32, none, .build [.g (.bool false), .g (.str []), .g (.str []), .g (.int .i64 0)] [(1, 1, (.c (.g (.str [97]))))]⟩,
    ⟨some 33, none, .build [.g (.bool false), .g (.str []), .g (.str []), .g (.int .i64 0)] [(1, 1, (.c (.g (.str [98]))))]⟩,
    ⟨some 34, none, .bslice 4 2 [.bool false, .str [], .str [], .int .i64 0] [(0, 4, (.t 32)), (4, 4, (.t 33))]⟩,
    ⟨some 35, none, .call (.c (.g (.fn 25))) [(.t 31), (.t 34)]⟩,
    ⟨some 30, none, .mov (.t 35)⟩,
    ⟨some 36, none, .ext 0 (.t 30)⟩,
    ⟨some 37, none, .ext 1 (.t 30)⟩,
    ⟨some 38, none, .ext 2 (.t 30)⟩,
    ⟨some 1, none, .alloc [.z (.int .i64 0), .z (.int .i64 0), .s 6, .s 8]⟩,
    ⟨none, none, .store 4 (.t 1) (.t 36)⟩,
    ⟨some 2, none, .mov (.t 37)⟩,
    ⟨some 3, none, .mov (.t 38)⟩]) <|
 .seq (.reg [1, 4] [⟨some 40, none, .load true 4 (.t 1)⟩,
    ⟨some 41, none, .build [.g (.bool false), .g (.str []), .g (.str []), .g (.int .i64 0)] [(1, 1, (.c (.g (.str [97]))))]⟩,
    ⟨some 42, none, .build [.g (.bool false), .g (.str []), .g (.str []), .g (.int .i64 0)] [(0, 1, (.c (.g (.bool true)))), (1, 1, (.c (.g (.str [98]))))]⟩,
    ⟨some 43, none, .bslice 4 2 [.bool false, .str [], .str [], .int .i64 0] [(0, 4, (.t 41)), (4, 4, (.t 42))]⟩,
    ⟨some 44, none, .call (.c (.g (.fn 25))) [(.t 40), (.t 43)]⟩,
    ⟨some 39, none, .mov (.t 44)⟩,
    ⟨some 45, none, .ext 0 (.t 39)⟩,
    ⟨some 46, none, .ext 1 (.t 39)⟩,
    ⟨some 47, none, .ext 2 (.t 39)⟩,
    ⟨some 4, none, .alloc [.z (.int .i64 0), .z (.int .i64 0), .s 6, .s 8]⟩,
    ⟨none, none, .store 4 (.t 4) (.t 45)⟩,
    ⟨some 5, none, .mov (.t 46)⟩,
    ⟨some 6, none, .mov (.t 47)⟩]) <|
 .seq (.reg [1, 7] [⟨some 49, none, .load true 4 (.t 4)⟩,
    ⟨some 50, none, .build [.g (.bool false), .g (.str []), .g (.str []), .g (.int .i64 0)] [(1, 1, (.c (.g (.str [97, 98]))))]⟩,
    ⟨some 51, none, .build [.g (.bool false), .g (.str []), .g (.str []), .g (.int .i64 0)] [(1, 1, (.c (.g (.str [99]))))]⟩,
    ⟨some 52, none, .bslice 4 2 [.bool false, .str [], .str [], .int .i64 0] [(0, 4, (.t 50)), (4, 4, (.t 51))]⟩,
    ⟨some 53, none, .call (.c (.g (.fn 25))) [(.t 49), (.t 52)]⟩,
    ⟨some 48, none, .mov (.t 53)⟩,
    ⟨some 54, none, .ext 0 (.t 48)⟩,
    ⟨some 55, none, .ext 1 (.t 48)⟩,
    ⟨some 56, none, .ext 2 (.t 48)⟩,
    ⟨some 7, none, .alloc [.z (.int .i64 0), .z (.int .i64 0), .s 6, .s 8]⟩,
    ⟨none, none, .store 4 (.t 7) (.t 54)⟩,
    ⟨some 8, none, .mov (.t 55)⟩,
    ⟨some 9, none, .mov (.t 56)⟩]) <|
 .seq (.reg [1, 7, 10, 11, 12] [⟨some 58, none, .load true 4 (.t 7)⟩,
    ⟨some 59, none, .call (.c (.g (.fn 16))) [(.t 58), (.c (.g (.str []))), (.c (.g (.int .i64 1))), (.c (.g (.int .i64 5)))]⟩,
    ⟨some 57, none, .mov (.t 59)⟩,
    ⟨some 60, none, .ext 0 (.t 57)⟩,
    ⟨some 61, none, .ext 1 (.t 57)⟩,
    ⟨some 62, none, .ext 2 (.t 57)⟩,
    ⟨some 10, none, .mov (.t 60)⟩,
    ⟨some 11, none, .mov (.t 61)⟩,
    ⟨some 12, none, .mov (.t 62)⟩]) <|
 .seq (.reg [1, 7, 10, 11, 12, 13, 14, 15] [⟨some 64, none, .load true 4 (.t 7)⟩,
    ⟨some 65, none, .call (.c (.g (.fn 16))) [(.t 64), (.c (.g (.str [97]))), (.c (.g (.int .i64 2))), (.c (.g (.int .i64 5)))]⟩,
    ⟨some 63, none, .mov (.t 65)⟩,
    ⟨some 66, none, .ext 0 (.t 63)⟩,
    ⟨some 67, none, .ext 1 (.t 63)⟩,
    ⟨some 68, none, .ext 2 (.t 63)⟩,
    ⟨some 13, none, .mov (.t 66)⟩,
    ⟨some 14, none, .mov (.t 67)⟩,
    ⟨some 15, none, .mov (.t 68)⟩]) <|
 .seq (.reg [1, 7, 10, 11, 12, 13, 14, 15, 18] [⟨some 70, none, .load true 4 (.t 7)⟩,
    ⟨some 71, none, .call (.c (.g (.fn 16))) [(.t 70), (.c (.g (.str []))), (.c (.g (.int .i64 1))), (.c (.g (.int .i64 1)))]⟩,
    ⟨some 69, none, .mov (.t 71)⟩,
    ⟨some 72, none, .ext 0 (.t 69)⟩,
    ⟨some 73, none, .ext 1 (.t 69)⟩,
    ⟨some 74, none, .ext 2 (.t 69)⟩,
    ⟨some 16, none, .mov (.t 72)⟩,
    ⟨some 17, none, .mov (.t 73)⟩,
    ⟨some 18, none, .mov (.t 74)⟩]) <|
 .seq (.reg [1, 7, 10, 11, 12, 13, 14, 15, 18, 21] [⟨some 76, none, .load true 4 (.t 7)⟩,
    ⟨some 77, none, .call (.c (.g (.fn 16))) [(.t 76), (.c (.g (.str []))), (.c (.g (.int .i64 5))), (.c (.g (.int .i64 1)))]⟩,
    ⟨some 75, none, .mov (.t 77)⟩,
    ⟨some 78, none, .ext 0 (.t 75)⟩,
    ⟨some 79, none, .ext 1 (.t 75)⟩,
    ⟨some 80, none, .ext 2 (.t 75)⟩,
    ⟨some 19, none, .mov (.t 78)⟩,
    ⟨some 20, none, .mov (.t 79)⟩,
    ⟨some 21, none, .mov (.t 80)⟩]) <|
 .seq (.reg [1, 7, 10, 11, 12, 13, 14, 15, 18, 21, 22, 23] [⟨some 82, none, .load true 4 (.t 7)⟩,
    ⟨some 83, none, .call (.c (.g (.fn 20))) [(.t 82), (.c (.g (.str []))), (.c (.g (.int .i64 1))), (.c (.g (.int .i64 2)))]⟩,
    ⟨some 81, none, .mov (.t 83)⟩,
    ⟨some 84, none, .ext 0 (.t 81)⟩,
    ⟨some 85, none, .ext 1 (.t 81)⟩,
    ⟨some 22, none, .mov (.t 84)⟩,
    ⟨some 23, none, .mov (.t 85)⟩]) <|
 .seq (.reg [7, 10, 11, 12, 13, 14, 15, 18, 21, 22, 23, 24] [⟨some 86, none, .load true 4 (.t 1)⟩,
    ⟨some 87, none, .call (.c (.g (.fn 29))) [(.t 86)]⟩,
    ⟨some 88, none, .mov (.t 13)⟩,
    ⟨some 89, none, .call (.c (.g (.fn 23))) [(.t 87), (.t 88)]⟩,
    ⟨some 24, none, .mov (.t 89)⟩]) <|
 .seq (.reg [10, 11, 12, 13, 14, 15, 18, 21, 22, 23, 24, 25] [⟨some 91, none, .load true 4 (.t 7)⟩,
    ⟨some 92, none, .call (.c (.g (.fn 26))) [(.t 91), (.c (.g (.int .i64 2)))]⟩,
    ⟨some 90, none, .mov (.t 92)⟩,
    ⟨some 93, none, .ext 0 (.t 90)⟩,
    ⟨some 94, none, .ext 1 (.t 90)⟩,
    ⟨some 25, none, .alloc [.z (.int .i64 0), .z (.int .i64 0), .s 6, .s 8]⟩,
    ⟨none, none, .store 4 (.t 25) (.t 93)⟩,
    ⟨some 26, none, .mov (.t 94)⟩]) <|
 .seq (.reg [10, 11, 12, 13, 14, 15, 18, 21, 22, 23, 24, 29] [⟨some 96, none, .load true 4 (.t 25)⟩,
    ⟨some 97, none, .call (.c (.g (.fn 16))) [(.t 96), (.c (.g (.str []))), (.c (.g (.int .i64 2))), (.c (.g (.int .i64 5)))]⟩,
    ⟨some 95, none, .mov (.t 97)⟩,
    ⟨some 98, none, .ext 0 (.t 95)⟩,
    ⟨some 99, none, .ext 1 (.t 95)⟩,
    ⟨some 100, none, .ext 2 (.t 95)⟩,
    ⟨some 27, none, .mov (.t 98)⟩,
    ⟨some 28, none, .mov (.t 99)⟩,
    ⟨some 29, none, .mov (.t 100)⟩]) <|
 .seq (.reg [0] [⟨some 101, none, .mov (.t 10)⟩,
    ⟨some 102, none, .len (.t 101)⟩,
    ⟨some 103, none, .bin .eql (.t 102) (.c (.g (.int .i64 4)))⟩,
    ⟨some 104, none, .mov (.t 103)⟩,
    ⟨some 105, (some (104, true)), .mov (.t 11)⟩,
    ⟨some 106, (some (104, true)), .bin .eql (.t 105) (.c (.g (.int .i64 3)))⟩,
    ⟨some 107, none, .pick (.t 104) (.t 106) (.c (.g (.bool false)))⟩,
    ⟨some 108, none, .mov (.t 107)⟩,
    ⟨some 109, (some (108, true)), .mov (.t 12)⟩,
    ⟨some 110, (some (108, true)), .bin .eql (.t 109) (.c (.g (.int .i64 0)))⟩,
    ⟨some 111, none, .pick (.t 108) (.t 110) (.c (.g (.bool false)))⟩,
    ⟨some 112, none, .mov (.t 111)⟩,
    ⟨some 113, (some (112, true)), .mov (.t 13)⟩,
    ⟨some 114, (some (112, true)), .len (.t 113)⟩,
    ⟨some 115, (some (112, true)), .bin .eql (.t 114) (.c (.g (.int .i64 2)))⟩,
    ⟨some 116, none, .pick (.t 112) (.t 115) (.c (.g (.bool false)))⟩,
    ⟨some 117, none, .mov (.t 116)⟩,
    ⟨some 118, (some (117, true)), .mov (.t 14)⟩,
    ⟨some 119, (some (117, true)), .bin .eql (.t 118) (.c (.g (.int .i64 4)))⟩,
    ⟨some 120, none, .pick (.t 117) (.t 119) (.c (.g (.bool false)))⟩,
    ⟨some 121, none, .mov (.t 120)⟩,
    ⟨some 122, (some (121, true)), .mov (.t 15)⟩,
    ⟨some 123, (some (121, true)), .bin .eql (.t 122) (.c (.g (.int .i64 0)))⟩,
    ⟨some 124, none, .pick (.t 121) (.t 123) (.c (.g (.bool false)))⟩,
    ⟨some 125, none, .mov (.t 124)⟩,
    ⟨some 126, (some (125, true)), .mov (.t 18)⟩,
    ⟨some 127, (some (125, true)), .bin .eql (.t 126) (.c (.g (.int .i64 4)))⟩,
    ⟨some 128, none, .pick (.t 125) (.t 127) (.c (.g (.bool false)))⟩,
    ⟨some 129, none, .mov (.t 128)⟩,
    ⟨some 130, (some (129, true)), .mov (.t 21)⟩,
    ⟨some 131, (some (129, true)), .bin .eql (.t 130) (.c (.g (.int .i64 8)))⟩,
    ⟨some 132, none, .pick (.t 129) (.t 131) (.c (.g (.bool false)))⟩,
    ⟨some 133, none, .mov (.t 132)⟩,
    ⟨some 134, (some (133, true)), .mov (.t 22)⟩,
    ⟨some 135, (some (133, true)), .len (.t 134)⟩,
    ⟨some 136, (some (133, true)), .bin .eql (.t 135) (.c (.g (.int .i64 6)))⟩,
    ⟨some 137, none, .pick (.t 133) (.t 136) (.c (.g (.bool false)))⟩,
    ⟨some 138, none, .mov (.t 137)⟩,
    ⟨some 139, (some (138, true)), .mov (.t 23)⟩,
    ⟨some 140, (some (138, true)), .bin .eql (.t 139) (.c (.g (.int .i64 0)))⟩,
    ⟨some 141, none, .pick (.t 138) (.t 140) (.c (.g (.bool false)))⟩,
    ⟨some 142, none, .mov (.t 141)⟩,
    ⟨some 143, (some (142, true)), .mov (.t 24)⟩,
    ⟨some 144, (some (142, true)), .len (.t 143)⟩,
    ⟨some 145, (some (142, true)), .bin .eql (.t 144) (.c (.g (.int .i64 3)))⟩,
    ⟨some 146, none, .pick (.t 142) (.t 145) (.c (.g (.bool false)))⟩,
    ⟨some 147, none, .mov (.t 146)⟩,
    ⟨some 148, (some (147, true)), .mov (.t 24)⟩,
    ⟨some 149, (some (147, true)), .iaddr 6 (.t 148) (.c (.g (.int .i64 1)))⟩,
    ⟨some 150, (some (147, true)), .faddr 0 (.t 149)⟩,
    ⟨some 151, (some (147, true)), .load false 1 (.t 150)⟩,
    ⟨some 152, (some (147, true)), .bin .eql (.t 151) (.c (.g (.str [97, 98])))⟩,
    ⟨some 153, none, .pick (.t 147) (.t 152) (.c (.g (.bool false)))⟩,
    ⟨some 154, none, .mov (.t 153)⟩,
    ⟨some 155, (some (154, true)), .mov (.t 29)⟩,
    ⟨some 156, (some (154, true)), .bin .eql (.t 155) (.c (.g (.int .i64 9)))⟩,
    ⟨some 157, none, .pick (.t 154) (.t 156) (.c (.g (.bool false)))⟩,
    ⟨some 0, none, .mov (.t 157)⟩]) <|
 .ret⟩
def h15 : List (List Nat) := [[], [1], [1, 4], [1, 7], [1, 7, 10, 11, 12], [1, 7, 10, 11, 12, 13, 14, 15], [1, 7, 10, 11, 12, 13, 14, 15, 18], [1, 7, 10, 11, 12, 13, 14, 15, 18, 21], [1, 7, 10, 11, 12, 13, 14, 15, 18, 21, 22, 23], [7, 10, 11, 12, 13, 14, 15, 18, 21, 22, 23, 24], [10, 11, 12, 13, 14, 15, 18, 21, 22, 23, 24, 25], [10, 11, 12, 13, 14, 15, 18, 21, 22, 23, 24, 29], [0]]
theorem c15 : cFunc Try.prog 15 false h15 = some F15 := by kernel_rfl

noncomputable def rd16 : RD := rdAt Try.prog 16 16
def F16 : IFunc := ⟨4, 64, [.cell 8 false 1, .cell 9 false 1, .cell 10 false 1], false,
 .seq (.reg [1, 2, 4, 7, 8, 9, 10] [⟨some 4, none, .box (.t 0)⟩,
    ⟨some 7, none, .box (.t 3)⟩,
    ⟨some 8, none, .alloc [.s 8]⟩,
    ⟨some 9, none, .alloc [.z (.int .i64 0)]⟩,
    ⟨some 10, none, .alloc [.z (.int .i64 0)]⟩]) <|
 .seq (.block [1, 2, 4, 7, 8, 9, 10] 0 <|
  .seq (.reg [1, 2, 4, 7, 8, 9, 10, 13] [⟨some 14, none, .load false 1 (.t 7)⟩,
     ⟨some 15, none, .bin .lss (.t 14) (.c (.g (.int .i64 1)))⟩,
     ⟨some 16, none, .mov (.t 15)⟩,
     ⟨some 17, (some (16, false)), .load false 1 (.t 7)⟩,
     ⟨some 18, (some (16, false)), .bin .gtr (.t 17) (.c (.g (.int .i64 30)))⟩,
     ⟨some 19, none, .pick (.t 16) (.c (.g (.bool true))) (.t 18)⟩,
     ⟨some 13, none, .mov (.t 19)⟩]) <|
  .cond [1, 2, 4, 7, 8, 9, 10] (.t 13)
   (.seq (.reg [8, 9, 10] [⟨none, none, .store 1 (.t 8) (.c (.g (.nsl)))⟩,
       ⟨none, none, .store 1 (.t 9) (.c (.g (.int .i64 0)))⟩,
       ⟨none, none, .store 1 (.t 10) (.c (.g (.int .i64 1)))⟩]) <|
    .ret)
   (.seq (.reg [1, 2, 4, 7, 8, 9, 10, 20] [⟨some 21, none, .mov (.t 2)⟩,
       ⟨some 22, none, .bin .lss (.t 21) (.c (.g (.int .i64 1)))⟩,
       ⟨some 23, none, .mov (.t 22)⟩,
       ⟨some 24, (some (23, false)), .mov (.t 2)⟩,
       ⟨some 25, (some (23, false)), .faddr 0 (.t 4)⟩,
       ⟨some 26, (some (23, false)), .load false 1 (.t 25)⟩,
       ⟨some 27, (some (23, false)), .bin .add (.t 26) (.c (.g (.int .i64 1)))⟩,
       ⟨some 28, (some (23, false)), .bin .gtr (.t 24) (.t 27)⟩,
       ⟨some 29, none, .pick (.t 23) (.c (.g (.bool true))) (.t 28)⟩,
       ⟨some 20, none, .mov (.t 29)⟩]) <|
    .cond [1, 2, 4, 7, 8, 9, 10] (.t 20)
     (.seq (.reg [8, 9, 10] [⟨none, none, .store 1 (.t 8) (.c (.g (.nsl)))⟩,
         ⟨none, none, .store 1 (.t 9) (.c (.g (.int .i64 0)))⟩,
         ⟨none, none, .store 1 (.t 10) (.c (.g (.int .i64 8)))⟩]) <|
      .ret)
     (.seq (.reg [1, 2, 4, 7, 8, 9, 10, 30] [⟨some 31, none, .mov (.t 2)⟩,
         ⟨some 32, none, .faddr 1 (.t 4)⟩,
         ⟨some 33, none, .load false 1 (.t 32)⟩,
         ⟨some 34, none, .bin .leq (.t 31) (.t 33)⟩,
         ⟨some 30, none, .mov (.t 34)⟩]) <|
      .cond [1, 2, 4, 7, 8, 9, 10] (.t 30)
       (.seq (.reg [8, 9, 10] [⟨none, none, .store 1 (.t 8) (.c (.g (.nsl)))⟩,
           ⟨none, none, .store 1 (.t 9) (.c (.g (.int .i64 0)))⟩,
           ⟨none, none, .store 1 (.t 10) (.c (.g (.int .i64 9)))⟩]) <|
        .ret)
       (.skip)))) <|
 .seq (.reg [1, 2, 4, 7, 8, 9, 10, 11] [⟨some 11, none, .alloc [.s 8]⟩]) <|
 .seq (.seq (.reg [4, 7, 8, 9, 10, 11, 40] [⟨some 35, none, .faddr 3 (.t 4)⟩,
     ⟨some 36, none, .load false 1 (.t 35)⟩,
     ⟨some 37, none, .mov (.t 1)⟩,
     ⟨some 38, none, .mov (.t 2)⟩,
     ⟨some 39, none, .call (.c (.g (.fn 47))) [(.t 36), (.t 37), (.t 38)]⟩,
     ⟨some 40, none, .call (.c (.g (.fn 46))) [(.t 39)]⟩]) <|
  .block [4, 8, 9, 10, 11] 1 <|
  .rfun [4, 8, 9, 10, 11] rd16 [7, 8, 9, 10, 11] (.t 40)) <|
 .seq (.drw [8, 9, 10] 0 <|
  .take ⟨some 60, none, .load false 1 (.t 11)⟩ <|
  .take ⟨some 61, none, .faddr 0 (.t 4)⟩ <|
  .take ⟨some 62, none, .load false 1 (.t 61)⟩ <|
  .take ⟨some 63, none, .bin .add (.t 62) (.c (.g (.int .i64 1)))⟩ <|
  .one ⟨none, none, .store 1 (.t 8) (.t 60)⟩ <|
  .free <|
  .one ⟨none, none, .store 1 (.t 9) (.t 63)⟩ <|
  .one ⟨none, none, .store 1 (.t 10) (.c (.g (.int .i64 0)))⟩ <|
  .leaf) <|
 .ret⟩
def h16 : List (List Nat) := [[1, 2, 4, 7, 8, 9, 10], [1, 2, 4, 7, 8, 9, 10], [1, 2, 4, 7, 8, 9, 10, 13], [1, 2, 4, 7, 8, 9, 10], [8, 9, 10], [1, 2, 4, 7, 8, 9, 10, 20], [1, 2, 4, 7, 8, 9, 10], [8, 9, 10], [1, 2, 4, 7, 8, 9, 10, 30], [1, 2, 4, 7, 8, 9, 10], [8, 9, 10], [1, 2, 4, 7, 8, 9, 10, 11], [4, 7, 8, 9, 10, 11, 40], [4, 8, 9, 10, 11], [16], [4, 8, 9, 10, 11], [7, 8, 9, 10, 11], [8, 9, 10], []]
theorem c16 : cFunc Try.prog 16 false h16 = some F16 := by kernel_rfl
def R16 : IRound := ⟨rd16, [41], .reg [7, 8, 9, 10, 11, 12] [⟨some 12, none, .mov (.t 41)⟩],  .block [] 2 <|
 .seq (.seq (.reg [8, 9, 10, 11, 12, 48] [⟨some 42, none, .load false 1 (.t 11)⟩,
     ⟨some 43, none, .len (.t 42)⟩,
     ⟨some 44, none, .mov (.t 12)⟩,
     ⟨some 45, none, .len (.t 44)⟩,
     ⟨some 46, none, .bin .add (.t 43) (.t 45)⟩,
     ⟨some 47, none, .load false 1 (.t 7)⟩,
     ⟨some 48, none, .bin .leq (.t 46) (.t 47)⟩]) <|
  .cond [8, 9, 10, 11, 12] (.t 48)
   (.seq (.reg [] [⟨some 49, none, .load false 1 (.t 11)⟩,
       ⟨some 50, none, .mov (.t 12)⟩,
       ⟨some 51, none, .app 8 80 (.t 49) (.t 50)⟩,
       ⟨none, none, .store 1 (.t 11) (.t 51)⟩]) <|
    .exit 2)
   (.skip)) <|
 .seq (.seq (.reg [8, 9, 10, 11, 12, 54] [⟨some 52, none, .load false 1 (.t 11)⟩,
     ⟨some 53, none, .len (.t 52)⟩,
     ⟨some 54, none, .bin .eql (.t 53) (.c (.g (.int .i64 0)))⟩]) <|
  .cond [8, 9, 10, 11, 12] (.t 54)
   (.seq (.reg [] [⟨none, none, .store 1 (.t 8) (.c (.g (.nsl)))⟩,
       ⟨none, none, .store 1 (.t 9) (.c (.g (.int .i64 0)))⟩,
       ⟨none, none, .store 1 (.t 10) (.c (.g (.int .i64 4)))⟩]) <|
    .ret)
   (.skip)) <|
 .seq (.drw [] 0 <|
  .take ⟨some 55, none, .load false 1 (.t 11)⟩ <|
  .take ⟨some 56, none, .mov (.t 12)⟩ <|
  .take ⟨some 57, none, .iaddr 8 (.t 56) (.c (.g (.int .i64 0)))⟩ <|
  .take ⟨some 58, none, .faddr 0 (.t 57)⟩ <|
  .take ⟨some 59, none, .load false 1 (.t 58)⟩ <|
  .one ⟨none, none, .store 1 (.t 8) (.t 55)⟩ <|
  .free <|
  .one ⟨none, none, .store 1 (.t 9) (.t 59)⟩ <|
  .one ⟨none, none, .store 1 (.t 10) (.c (.g (.int .i64 0)))⟩ <|
  .leaf) <|
 .ret⟩
def ha16 : List (List Nat) := [[7, 8, 9, 10, 11, 12]]
def hb16 : List (List Nat) := [[], [8, 9, 10, 11, 12, 48], [8, 9, 10, 11, 12], [], [8, 9, 10, 11, 12, 54], [8, 9, 10, 11, 12], [], [], []]
theorem cr16 : RoundC Try.prog R16 := ⟨by kernel_rfl, by kernel_rfl, ⟨ha16, by kernel_rfl⟩, ⟨hb16, by kernel_rfl⟩⟩

def L17_0 : IC :=
 .seq (.seq (.reg [1, 2, 3, 4, 11, 12, 39] [⟨some 35, none, .mov (.t 12)⟩,
     ⟨some 36, none, .faddr 3 (.t 4)⟩,
     ⟨some 37, none, .load false 1 (.t 36)⟩,
     ⟨some 38, none, .len (.t 37)⟩,
     ⟨some 39, none, .bin .lss (.t 35) (.t 38)⟩]) <|
  .cond [1, 2, 3, 4, 11, 12] (.t 39)
   (.skip)
   (.exit 0)) <|
 .seq (.block [1, 2, 3, 4, 11, 12] 1 <|
  .seq (.reg [1, 2, 3, 4, 11, 12, 60] [⟨some 42, none, .faddr 3 (.t 4)⟩,
     ⟨some 43, none, .load false 1 (.t 42)⟩,
     ⟨some 44, none, .mov (.t 12)⟩,
     ⟨some 45, none, .iaddr 8 (.t 43) (.t 44)⟩,
     ⟨some 46, none, .faddr 0 (.t 45)⟩,
     ⟨some 47, none, .load false 1 (.t 46)⟩,
     ⟨some 48, none, .mov (.t 2)⟩,
     ⟨some 49, none, .bin .geq (.t 47) (.t 48)⟩,
     ⟨some 50, none, .mov (.t 49)⟩,
     ⟨some 51, (some (50, true)), .faddr 3 (.t 4)⟩,
     ⟨some 52, (some (50, true)), .load false 1 (.t 51)⟩,
     ⟨some 53, (some (50, true)), .mov (.t 12)⟩,
     ⟨some 54, (some (50, true)), .iaddr 8 (.t 52) (.t 53)⟩,
     ⟨some 55, (some (50, true)), .faddr 2 (.t 54)⟩,
     ⟨some 56, (some (50, true)), .faddr 0 (.t 55)⟩,
     ⟨some 57, (some (50, true)), .load false 1 (.t 56)⟩,
     ⟨some 58, (some (50, true)), .mov (.t 1)⟩,
     ⟨some 59, (some (50, true)), .call (.c (.g (.fn 48))) [(.t 57), (.t 58)]⟩,
     ⟨some 60, none, .pick (.t 50) (.t 59) (.c (.g (.bool false)))⟩]) <|
  .cond [1, 2, 3, 4, 11, 12] (.t 60)
   (.reg [1, 2, 3, 4, 11, 12] [⟨some 61, none, .mov (.t 11)⟩,
      ⟨some 62, none, .faddr 3 (.t 4)⟩,
      ⟨some 63, none, .load false 1 (.t 62)⟩,
      ⟨some 64, none, .mov (.t 12)⟩,
      ⟨some 65, none, .iaddr 8 (.t 63) (.t 64)⟩,
      ⟨some 66, none, .load true 8 (.t 65)⟩,
      ⟨some 67, none, .bslice 8 1 [.int .i64 0, .bool false, .str [], .str [], .int .i64 0, .int .i64 0, .int .i64 0, .int .i64 0] [(0, 8, (.t 66))]⟩,
      ⟨some 68, none, .app 8 80 (.t 61) (.t 67)⟩,
      ⟨some 11, none, .mov (.t 68)⟩])
   (.skip)) <|
 .reg [1, 2, 3, 4, 11, 12] [⟨some 40, none, .mov (.t 12)⟩,
   ⟨some 41, none, .bin .add (.t 40) (.c (.g (.int .i64 1)))⟩,
   ⟨some 12, none, .mov (.t 41)⟩]
def L17_1 : IC :=
 .seq (.seq (.reg [11, 13, 14, 15, 100] [⟨some 88, none, .mov (.t 15)⟩,
     ⟨some 89, none, .mov (.t 11)⟩,
     ⟨some 90, none, .len (.t 89)⟩,
     ⟨some 91, none, .bin .lss (.t 88) (.t 90)⟩,
     ⟨some 92, none, .mov (.t 91)⟩,
     ⟨some 93, (some (92, true)), .mov (.t 11)⟩,
     ⟨some 94, (some (92, true)), .mov (.t 15)⟩,
     ⟨some 95, (some (92, true)), .iaddr 8 (.t 93) (.t 94)⟩,
     ⟨some 96, (some (92, true)), .faddr 0 (.t 95)⟩,
     ⟨some 97, (some (92, true)), .load false 1 (.t 96)⟩,
     ⟨some 98, (some (92, true)), .mov (.t 13)⟩,
     ⟨some 99, (some (92, true)), .bin .lss (.t 97) (.t 98)⟩,
     ⟨some 100, none, .pick (.t 92) (.t 99) (.c (.g (.bool false)))⟩]) <|
  .cond [11, 13, 14, 15] (.t 100)
   (.skip)
   (.exit 2)) <|
 .seq (.block [11, 13, 14, 15] 3 <|
  .reg [11, 13, 14, 15] [⟨some 103, none, .mov (.t 14)⟩,
    ⟨some 104, none, .mov (.t 11)⟩,
    ⟨some 105, none, .mov (.t 15)⟩,
    ⟨some 106, none, .iaddr 8 (.t 104) (.t 105)⟩,
    ⟨some 107, none, .load true 8 (.t 106)⟩,
    ⟨some 108, none, .bslice 8 1 [.int .i64 0, .bool false, .str [], .str [], .int .i64 0, .int .i64 0, .int .i64 0, .int .i64 0] [(0, 8, (.t 107))]⟩,
    ⟨some 109, none, .app 8 80 (.t 103) (.t 108)⟩,
    ⟨some 14, none, .mov (.t 109)⟩]) <|
 .reg [11, 13, 14, 15] [⟨some 101, none, .mov (.t 15)⟩,
   ⟨some 102, none, .bin .add (.t 101) (.c (.g (.int .i64 1)))⟩,
   ⟨some 15, none, .mov (.t 102)⟩]
def F17 : IFunc := ⟨4, 112, [.tmp 8, .tmp 9, .tmp 10], false,
 .seq (.reg [1, 2, 3, 4] [⟨some 4, none, .box (.t 0)⟩,
    ⟨some 8, none, .nres 8⟩,
    ⟨some 9, none, .mov (.c (.g (.int .i64 0)))⟩,
    ⟨some 10, none, .mov (.c (.g (.int .i64 0)))⟩]) <|
 .seq (.seq (.reg [1, 2, 3, 4, 21] [⟨some 16, none, .mov (.t 3)⟩,
     ⟨some 17, none, .bin .lss (.t 16) (.c (.g (.int .i64 1)))⟩,
     ⟨some 18, none, .mov (.t 17)⟩,
     ⟨some 19, (some (18, false)), .mov (.t 3)⟩,
     ⟨some 20, (some (18, false)), .bin .gtr (.t 19) (.c (.g (.int .i64 30)))⟩,
     ⟨some 21, none, .pick (.t 18) (.c (.g (.bool true))) (.t 20)⟩]) <|
  .cond [1, 2, 3, 4] (.t 21)
   (.seq (.reg [8, 9, 10] [⟨some 8, none, .nres 8⟩,
       ⟨some 9, none, .mov (.c (.g (.int .i64 0)))⟩,
       ⟨some 10, none, .mov (.c (.g (.int .i64 1)))⟩]) <|
    .ret)
   (.skip)) <|
 .seq (.seq (.reg [1, 2, 3, 4, 30] [⟨some 22, none, .mov (.t 2)⟩,
     ⟨some 23, none, .bin .lss (.t 22) (.c (.g (.int .i64 1)))⟩,
     ⟨some 24, none, .mov (.t 23)⟩,
     ⟨some 25, (some (24, false)), .mov (.t 2)⟩,
     ⟨some 26, (some (24, false)), .faddr 0 (.t 4)⟩,
     ⟨some 27, (some (24, false)), .load false 1 (.t 26)⟩,
     ⟨some 28, (some (24, false)), .bin .add (.t 27) (.c (.g (.int .i64 1)))⟩,
     ⟨some 29, (some (24, false)), .bin .gtr (.t 25) (.t 28)⟩,
     ⟨some 30, none, .pick (.t 24) (.c (.g (.bool true))) (.t 29)⟩]) <|
  .cond [1, 2, 3, 4] (.t 30)
   (.seq (.reg [8, 9, 10] [⟨some 8, none, .nres 8⟩,
       ⟨some 9, none, .mov (.c (.g (.int .i64 0)))⟩,
       ⟨some 10, none, .mov (.c (.g (.int .i64 8)))⟩]) <|
    .ret)
   (.skip)) <|
 .seq (.seq (.reg [1, 2, 3, 4, 34] [⟨some 31, none, .mov (.t 2)⟩,
     ⟨some 32, none, .faddr 1 (.t 4)⟩,
     ⟨some 33, none, .load false 1 (.t 32)⟩,
     ⟨some 34, none, .bin .leq (.t 31) (.t 33)⟩]) <|
  .cond [1, 2, 3, 4] (.t 34)
   (.seq (.reg [8, 9, 10] [⟨some 8, none, .nres 8⟩,
       ⟨some 9, none, .mov (.c (.g (.int .i64 0)))⟩,
       ⟨some 10, none, .mov (.c (.g (.int .i64 9)))⟩]) <|
    .ret)
   (.skip)) <|
 .seq (.reg [1, 2, 3, 4, 11] [⟨some 11, none, .nres 8⟩]) <|
 .seq (.seq (.reg [1, 2, 3, 4, 11, 12] [⟨some 12, none, .mov (.c (.g (.int .i64 0)))⟩]) <|
  .block [3, 4, 11] 0 <|
  .loop [1, 2, 3, 4, 11, 12] [] L17_0) <|
 .seq (.seq (.reg [3, 4, 11, 72] [⟨some 69, none, .mov (.t 11)⟩,
     ⟨some 70, none, .len (.t 69)⟩,
     ⟨some 71, none, .mov (.t 3)⟩,
     ⟨some 72, none, .bin .leq (.t 70) (.t 71)⟩]) <|
  .cond [3, 11] (.t 72)
   (.seq (.drw [8, 9, 10] 0 <|
     .take ⟨some 73, none, .mov (.t 11)⟩ <|
     .take ⟨some 74, none, .faddr 0 (.t 4)⟩ <|
     .take ⟨some 75, none, .load false 1 (.t 74)⟩ <|
     .take ⟨some 76, none, .bin .add (.t 75) (.c (.g (.int .i64 1)))⟩ <|
     .take ⟨some 8, none, .mov (.t 73)⟩ <|
     .free <|
     .take ⟨some 9, none, .mov (.t 76)⟩ <|
     .take ⟨some 10, none, .mov (.c (.g (.int .i64 0)))⟩ <|
     .leaf) <|
    .ret)
   (.skip)) <|
 .seq (.reg [11, 13] [⟨some 77, none, .mov (.t 11)⟩,
    ⟨some 78, none, .mov (.t 3)⟩,
    ⟨some 79, none, .iaddr 8 (.t 77) (.t 78)⟩,
    ⟨some 80, none, .faddr 0 (.t 79)⟩,
    ⟨some 81, none, .load false 1 (.t 80)⟩,
    ⟨some 13, none, .mov (.t 81)⟩]) <|
 .seq (.seq (.reg [11, 13, 87] [⟨some 82, none, .mov (.t 13)⟩,
     ⟨some 83, none, .mov (.t 11)⟩,
     ⟨some 84, none, .iaddr 8 (.t 83) (.c (.g (.int .i64 0)))⟩,
     ⟨some 85, none, .faddr 0 (.t 84)⟩,
     ⟨some 86, none, .load false 1 (.t 85)⟩,
     ⟨some 87, none, .bin .eql (.t 82) (.t 86)⟩]) <|
  .cond [11, 13] (.t 87)
   (.seq (.reg [8, 9, 10] [⟨some 8, none, .nres 8⟩,
       ⟨some 9, none, .mov (.c (.g (.int .i64 0)))⟩,
       ⟨some 10, none, .mov (.c (.g (.int .i64 4)))⟩]) <|
    .ret)
   (.skip)) <|
 .seq (.reg [11, 13, 14] [⟨some 14, none, .nres 8⟩]) <|
 .seq (.seq (.reg [11, 13, 14, 15] [⟨some 15, none, .mov (.c (.g (.int .i64 0)))⟩]) <|
  .block [13, 14] 2 <|
  .loop [11, 13, 14, 15] [] L17_1) <|
 .seq (.reg [8, 9, 10] [⟨some 110, none, .mov (.t 14)⟩,
    ⟨some 111, none, .mov (.t 13)⟩,
    ⟨some 8, none, .mov (.t 110)⟩,
    ⟨some 9, none, .mov (.t 111)⟩,
    ⟨some 10, none, .mov (.c (.g (.int .i64 0)))⟩]) <|
 .ret⟩
def h17 : List (List Nat) := [[1, 2, 3, 4], [1, 2, 3, 4, 21], [1, 2, 3, 4], [8, 9, 10], [1, 2, 3, 4, 30], [1, 2, 3, 4], [8, 9, 10], [1, 2, 3, 4, 34], [1, 2, 3, 4], [8, 9, 10], [1, 2, 3, 4, 11], [1, 2, 3, 4, 11, 12], [3, 4, 11], [1, 2, 3, 4, 11, 12], [1, 2, 3, 4, 11, 12, 39], [1, 2, 3, 4, 11, 12], [1, 2, 3, 4, 11, 12], [1, 2, 3, 4, 11, 12, 60], [1, 2, 3, 4, 11, 12], [1, 2, 3, 4, 11, 12], [1, 2, 3, 4, 11, 12], [3, 4, 11, 72], [3, 11], [8, 9, 10], [], [11, 13], [11, 13, 87], [11, 13], [8, 9, 10], [11, 13, 14], [11, 13, 14, 15], [13, 14], [11, 13, 14, 15], [11, 13, 14, 15, 100], [11, 13, 14, 15], [11, 13, 14, 15], [11, 13, 14, 15], [11, 13, 14, 15], [8, 9, 10]]
theorem c17 : cFunc Try.prog 17 false h17 = some F17 := by kernel_rfl

def L18_0 : IC :=
 .seq (.seq (.reg [0, 1, 5, 14] [⟨some 11, none, .mov (.t 5)⟩,
     ⟨some 12, none, .mov (.t 0)⟩,
     ⟨some 13, none, .len (.t 12)⟩,
     ⟨some 14, none, .bin .lss (.t 11) (.t 13)⟩]) <|
  .cond [0, 1, 5] (.t 14)
   (.skip)
   (.exit 0)) <|
 .seq (.block [0, 1, 5] 1 <|
  .seq (.drw [0, 1, 5, 25] 0 <|
   .take ⟨some 17, none, .mov (.t 0)⟩ <|
   .take ⟨some 18, none, .mov (.t 5)⟩ <|
   .take ⟨some 19, none, .iaddr 8 (.t 17) (.t 18)⟩ <|
   .take ⟨some 20, none, .load true 8 (.t 19)⟩ <|
   .take ⟨some 21, none, .mov (.t 1)⟩ <|
   .take ⟨some 22, none, .mov (.t 5)⟩ <|
   .take ⟨some 23, none, .iaddr 8 (.t 21) (.t 22)⟩ <|
   .take ⟨some 24, none, .load true 8 (.t 23)⟩ <|
   .free <|
   .take ⟨some 25, none, .eqs true true [.i, .b, .s, .s, .i, .i, .i, .i] (.t 20) (.t 24)⟩ <|
   .leaf) <|
  .cond [0, 1, 5] (.t 25)
   (.seq (.reg [4] [⟨some 4, none, .mov (.c (.g (.bool false)))⟩]) <|
    .ret)
   (.skip)) <|
 .reg [0, 1, 5] [⟨some 15, none, .mov (.t 5)⟩,
   ⟨some 16, none, .bin .add (.t 15) (.c (.g (.int .i64 1)))⟩,
   ⟨some 5, none, .mov (.t 16)⟩]
def F18 : IFunc := ⟨2, 26, [.tmp 4], false,
 .seq (.reg [0, 1] [⟨some 4, none, .mov (.c (.g (.bool false)))⟩]) <|
 .seq (.seq (.reg [0, 1, 10] [⟨some 6, none, .mov (.t 0)⟩,
     ⟨some 7, none, .len (.t 6)⟩,
     ⟨some 8, none, .mov (.t 1)⟩,
     ⟨some 9, none, .len (.t 8)⟩,
     ⟨some 10, none, .bin .neq (.t 7) (.t 9)⟩]) <|
  .cond [0, 1] (.t 10)
   (.seq (.reg [4] [⟨some 4, none, .mov (.c (.g (.bool false)))⟩]) <|
    .ret)
   (.skip)) <|
 .seq (.seq (.reg [0, 1, 5] [⟨some 5, none, .mov (.c (.g (.int .i64 0)))⟩]) <|
  .block [] 0 <|
  .loop [0, 1, 5] [] L18_0) <|
 .seq (.reg [4] [⟨some 4, none, .mov (.c (.g (.bool true)))⟩]) <|
 .ret⟩
def h18 : List (List Nat) := [[0, 1], [0, 1, 10], [0, 1], [4], [0, 1, 5], [], [0, 1, 5], [0, 1, 5, 14], [0, 1, 5], [0, 1, 5], [0, 1, 5, 25], [], [0, 1, 5], [4], [0, 1, 5], [4]]
theorem c18 : cFunc Try.prog 18 false h18 = some F18 := by kernel_rfl

def L19_0 : IC :=
 .seq (.seq (.reg [0, 5, 13] [⟨some 10, none, .mov (.t 5)⟩,
     ⟨some 11, none, .mov (.t 0)⟩,
     ⟨some 12, none, .len (.t 11)⟩,
     ⟨some 13, none, .bin .lss (.t 10) (.t 12)⟩]) <|
  .cond [0, 5] (.t 13)
   (.skip)
   (.exit 0)) <|
 .seq (.block [0, 5] 1 <|
  .seq (.reg [0, 5, 31] [⟨some 16, none, .mov (.t 0)⟩,
     ⟨some 17, none, .mov (.t 5)⟩,
     ⟨some 18, none, .iaddr 6 (.t 16) (.t 17)⟩,
     ⟨some 19, none, .faddr 0 (.t 18)⟩,
     ⟨some 20, none, .load false 1 (.t 19)⟩,
     ⟨some 21, none, .lenS (.t 20)⟩,
     ⟨some 22, none, .bin .gtr (.t 21) (.c (.g (.int .i64 60)))⟩,
     ⟨some 23, none, .mov (.t 22)⟩,
     ⟨some 24, (some (23, false)), .mov (.t 0)⟩,
     ⟨some 25, (some (23, false)), .mov (.t 5)⟩,
     ⟨some 26, (some (23, false)), .iaddr 6 (.t 24) (.t 25)⟩,
     ⟨some 27, (some (23, false)), .faddr 1 (.t 26)⟩,
     ⟨some 28, (some (23, false)), .load false 1 (.t 27)⟩,
     ⟨some 29, (some (23, false)), .lenS (.t 28)⟩,
     ⟨some 30, (some (23, false)), .bin .gtr (.t 29) (.c (.g (.int .i64 60)))⟩,
     ⟨some 31, none, .pick (.t 23) (.c (.g (.bool true))) (.t 30)⟩]) <|
  .cond [0, 5] (.t 31)
   (.seq (.reg [4] [⟨some 4, none, .mov (.c (.g (.bool false)))⟩]) <|
    .ret)
   (.skip)) <|
 .reg [0, 5] [⟨some 14, none, .mov (.t 5)⟩,
   ⟨some 15, none, .bin .add (.t 14) (.c (.g (.int .i64 1)))⟩,
   ⟨some 5, none, .mov (.t 15)⟩]
def F19 : IFunc := ⟨2, 32, [.tmp 4], false,
 .seq (.reg [0, 1] [⟨some 4, none, .mov (.c (.g (.bool false)))⟩]) <|
 .seq (.seq (.reg [0, 9] [⟨some 6, none, .mov (.t 0)⟩,
     ⟨some 7, none, .len (.t 6)⟩,
     ⟨some 8, none, .mov (.t 1)⟩,
     ⟨some 9, none, .bin .gtr (.t 7) (.t 8)⟩]) <|
  .cond [0] (.t 9)
   (.seq (.reg [4] [⟨some 4, none, .mov (.c (.g (.bool false)))⟩]) <|
    .ret)
   (.skip)) <|
 .seq (.seq (.reg [0, 5] [⟨some 5, none, .mov (.c (.g (.int .i64 0)))⟩]) <|
  .block [] 0 <|
  .loop [0, 5] [] L19_0) <|
 .seq (.reg [4] [⟨some 4, none, .mov (.c (.g (.bool true)))⟩]) <|
 .ret⟩
def h19 : List (List Nat) := [[0, 1], [0, 9], [0], [4], [0, 5], [], [0, 5], [0, 5, 13], [0, 5], [0, 5], [0, 5, 31], [0, 5], [4], [0, 5], [4]]
theorem c19 : cFunc Try.prog 19 false h19 = some F19 := by kernel_rfl

def L20_0 : IC :=
 .block [1, 3, 4, 10, 11] 1 <|
 .seq (.reg [1, 3, 4, 10, 12, 13, 14] [⟨some 17, none, .load true 4 (.t 4)⟩,
    ⟨some 18, none, .mov (.t 1)⟩,
    ⟨some 19, none, .mov (.t 11)⟩,
    ⟨some 20, none, .mov (.t 3)⟩,
    ⟨some 21, none, .call (.c (.g (.fn 16))) [(.t 17), (.t 18), (.t 19), (.t 20)]⟩,
    ⟨some 16, none, .mov (.t 21)⟩,
    ⟨some 22, none, .ext 0 (.t 16)⟩,
    ⟨some 23, none, .ext 1 (.t 16)⟩,
    ⟨some 24, none, .ext 2 (.t 16)⟩,
    ⟨some 12, none, .mov (.t 22)⟩,
    ⟨some 13, none, .mov (.t 23)⟩,
    ⟨some 14, none, .mov (.t 24)⟩]) <|
 .seq (.seq (.reg [1, 3, 4, 10, 12, 13, 14, 26] [⟨some 25, none, .mov (.t 14)⟩,
     ⟨some 26, none, .bin .neq (.t 25) (.c (.g (.int .i64 0)))⟩]) <|
  .cond [1, 3, 4, 10, 12, 13] (.t 26)
   (.seq (.reg [8, 9] [⟨some 27, none, .mov (.t 14)⟩,
       ⟨some 8, none, .nres 8⟩,
       ⟨some 9, none, .mov (.t 27)⟩]) <|
    .ret)
   (.skip)) <|
 .seq (.reg [1, 3, 4, 10, 13] [⟨some 28, none, .mov (.t 10)⟩,
    ⟨some 29, none, .mov (.t 12)⟩,
    ⟨some 30, none, .app 8 80 (.t 28) (.t 29)⟩,
    ⟨some 10, none, .mov (.t 30)⟩]) <|
 .seq (.reg [1, 3, 4, 10, 11] [⟨some 31, none, .mov (.t 13)⟩,
    ⟨some 11, none, .mov (.t 31)⟩]) <|
 .seq (.reg [1, 3, 4, 10, 11, 35] [⟨some 32, none, .mov (.t 11)⟩,
    ⟨some 33, none, .faddr 0 (.t 4)⟩,
    ⟨some 34, none, .load false 1 (.t 33)⟩,
    ⟨some 35, none, .bin .gtr (.t 32) (.t 34)⟩]) <|
 .cond [1, 3, 4, 10, 11] (.t 35)
  (.seq (.reg [8, 9] [⟨some 36, none, .mov (.t 10)⟩,
      ⟨some 8, none, .mov (.t 36)⟩,
      ⟨some 9, none, .mov (.c (.g (.int .i64 0)))⟩]) <|
   .ret)
  (.skip)
def F20 : IFunc := ⟨4, 37, [.tmp 8, .tmp 9], false,
 .seq (.reg [1, 2, 3, 4] [⟨some 4, none, .box (.t 0)⟩,
    ⟨some 8, none, .nres 8⟩,
    ⟨some 9, none, .mov (.c (.g (.int .i64 0)))⟩]) <|
 .seq (.reg [1, 2, 3, 4, 10] [⟨some 10, none, .nres 8⟩]) <|
 .seq (.reg [1, 3, 4, 10, 11] [⟨some 15, none, .mov (.t 2)⟩,
    ⟨some 11, none, .mov (.t 15)⟩]) <|
 .block [8, 9] 0 <|
 .loop [1, 3, 4, 10, 11] [] L20_0⟩
def h20 : List (List Nat) := [[1, 2, 3, 4], [1, 2, 3, 4, 10], [1, 3, 4, 10, 11], [8, 9], [1, 3, 4, 10, 11], [1, 3, 4, 10, 11], [1, 3, 4, 10, 12, 13, 14], [1, 3, 4, 10, 12, 13, 14, 26], [1, 3, 4, 10, 12, 13], [8, 9], [1, 3, 4, 10, 13], [1, 3, 4, 10, 11], [1, 3, 4, 10, 11, 35], [1, 3, 4, 10, 11], [8, 9]]
theorem c20 : cFunc Try.prog 20 false h20 = some F20 := by kernel_rfl

def L21_0 : IC :=
 .block [1, 2, 3, 4, 10] 1 <|
 .seq (.reg [1, 3, 4, 10, 11, 12, 13] [⟨some 15, none, .load true 4 (.t 4)⟩,
    ⟨some 16, none, .mov (.t 1)⟩,
    ⟨some 17, none, .mov (.t 2)⟩,
    ⟨some 18, none, .mov (.t 3)⟩,
    ⟨some 19, none, .call (.c (.g (.fn 17))) [(.t 15), (.t 16), (.t 17), (.t 18)]⟩,
    ⟨some 14, none, .mov (.t 19)⟩,
    ⟨some 20, none, .ext 0 (.t 14)⟩,
    ⟨some 21, none, .ext 1 (.t 14)⟩,
    ⟨some 22, none, .ext 2 (.t 14)⟩,
    ⟨some 11, none, .mov (.t 20)⟩,
    ⟨some 12, none, .mov (.t 21)⟩,
    ⟨some 13, none, .mov (.t 22)⟩]) <|
 .seq (.seq (.reg [1, 3, 4, 10, 11, 12, 13, 24] [⟨some 23, none, .mov (.t 13)⟩,
     ⟨some 24, none, .bin .neq (.t 23) (.c (.g (.int .i64 0)))⟩]) <|
  .cond [1, 3, 4, 10, 11, 12] (.t 24)
   (.seq (.reg [8, 9] [⟨some 25, none, .mov (.t 13)⟩,
       ⟨some 8, none, .nres 8⟩,
       ⟨some 9, none, .mov (.t 25)⟩]) <|
    .ret)
   (.skip)) <|
 .seq (.reg [1, 3, 4, 10, 12] [⟨some 26, none, .mov (.t 10)⟩,
    ⟨some 27, none, .mov (.t 11)⟩,
    ⟨some 28, none, .app 8 80 (.t 26) (.t 27)⟩,
    ⟨some 10, none, .mov (.t 28)⟩]) <|
 .seq (.seq (.reg [1, 3, 4, 10, 12, 32] [⟨some 29, none, .mov (.t 12)⟩,
     ⟨some 30, none, .faddr 0 (.t 4)⟩,
     ⟨some 31, none, .load false 1 (.t 30)⟩,
     ⟨some 32, none, .bin .gtr (.t 29) (.t 31)⟩]) <|
  .cond [1, 3, 4, 10, 12] (.t 32)
   (.seq (.reg [8, 9] [⟨some 33, none, .mov (.t 10)⟩,
       ⟨some 8, none, .mov (.t 33)⟩,
       ⟨some 9, none, .mov (.c (.g (.int .i64 0)))⟩]) <|
    .ret)
   (.skip)) <|
 .reg [1, 2, 3, 4, 10] [⟨some 34, none, .mov (.t 12)⟩,
   ⟨some 2, none, .mov (.t 34)⟩]
def F21 : IFunc := ⟨4, 35, [.tmp 8, .tmp 9], false,
 .seq (.reg [1, 2, 3, 4] [⟨some 4, none, .box (.t 0)⟩,
    ⟨some 8, none, .nres 8⟩,
    ⟨some 9, none, .mov (.c (.g (.int .i64 0)))⟩]) <|
 .seq (.reg [1, 2, 3, 4, 10] [⟨some 10, none, .nres 8⟩]) <|
 .block [8, 9] 0 <|
 .loop [1, 2, 3, 4, 10] [] L21_0⟩
def h21 : List (List Nat) := [[1, 2, 3, 4], [1, 2, 3, 4, 10], [8, 9], [1, 2, 3, 4, 10], [1, 2, 3, 4, 10], [1, 3, 4, 10, 11, 12, 13], [1, 3, 4, 10, 11, 12, 13, 24], [1, 3, 4, 10, 11, 12], [8, 9], [1, 3, 4, 10, 12], [1, 3, 4, 10, 12, 32], [1, 3, 4, 10, 12], [8, 9], [1, 2, 3, 4, 10]]
theorem c21 : cFunc Try.prog 21 false h21 = some F21 := by kernel_rfl

def L22_0 : IC :=
 .seq (.seq (.reg [0, 1, 5, 14] [⟨some 11, none, .mov (.t 5)⟩,
     ⟨some 12, none, .mov (.t 0)⟩,
     ⟨some 13, none, .len (.t 12)⟩,
     ⟨some 14, none, .bin .lss (.t 11) (.t 13)⟩]) <|
  .cond [0, 1, 5] (.t 14)
   (.skip)
   (.exit 0)) <|
 .seq (.block [0, 1, 5] 1 <|
  .seq (.drw [0, 1, 5, 25] 0 <|
   .take ⟨some 17, none, .mov (.t 0)⟩ <|
   .take ⟨some 18, none, .mov (.t 5)⟩ <|
   .take ⟨some 19, none, .iaddr 6 (.t 17) (.t 18)⟩ <|
   .take ⟨some 20, none, .load true 6 (.t 19)⟩ <|
   .take ⟨some 21, none, .mov (.t 1)⟩ <|
   .take ⟨some 22, none, .mov (.t 5)⟩ <|
   .take ⟨some 23, none, .iaddr 6 (.t 21) (.t 22)⟩ <|
   .take ⟨some 24, none, .load true 6 (.t 23)⟩ <|
   .free <|
   .take ⟨some 25, none, .eqs true true [.s, .s, .i, .i, .i, .i] (.t 20) (.t 24)⟩ <|
   .leaf) <|
  .cond [0, 1, 5] (.t 25)
   (.seq (.reg [4] [⟨some 4, none, .mov (.c (.g (.bool false)))⟩]) <|
    .ret)
   (.skip)) <|
 .reg [0, 1, 5] [⟨some 15, none, .mov (.t 5)⟩,
   ⟨some 16, none, .bin .add (.t 15) (.c (.g (.int .i64 1)))⟩,
   ⟨some 5, none, .mov (.t 16)⟩]
def F22 : IFunc := ⟨2, 26, [.tmp 4], false,
 .seq (.reg [0, 1] [⟨some 4, none, .mov (.c (.g (.bool false)))⟩]) <|
 .seq (.seq (.reg [0, 1, 10] [⟨some 6, none, .mov (.t 0)⟩,
     ⟨some 7, none, .len (.t 6)⟩,
     ⟨some 8, none, .mov (.t 1)⟩,
     ⟨some 9, none, .len (.t 8)⟩,
     ⟨some 10, none, .bin .neq (.t 7) (.t 9)⟩]) <|
  .cond [0, 1] (.t 10)
   (.seq (.reg [4] [⟨some 4, none, .mov (.c (.g (.bool false)))⟩]) <|
    .ret)
   (.skip)) <|
 .seq (.seq (.reg [0, 1, 5] [⟨some 5, none, .mov (.c (.g (.int .i64 0)))⟩]) <|
  .block [] 0 <|
  .loop [0, 1, 5] [] L22_0) <|
 .seq (.reg [4] [⟨some 4, none, .mov (.c (.g (.bool true)))⟩]) <|
 .ret⟩
def h22 : List (List Nat) := [[0, 1], [0, 1, 10], [0, 1], [4], [0, 1, 5], [], [0, 1, 5], [0, 1, 5, 14], [0, 1, 5], [0, 1, 5], [0, 1, 5, 25], [], [0, 1, 5], [4], [0, 1, 5], [4]]
theorem c22 : cFunc Try.prog 22 false h22 = some F22 := by kernel_rfl

def L23_0 : IC :=
 .seq (.reg [0, 7, 8, 9, 10] [⟨some 10, none, .bin .lss (.t 9) (.t 8)⟩]) <|
 .seq (.cond [0, 7, 8, 9] (.t 10)
   (.skip)
   (.exit 0)) <|
 .seq (.block [0, 7, 8, 9] 1 <|
  .seq (.reg [0, 6, 7, 8, 9] [⟨some 11, none, .iaddr 8 (.t 7) (.t 9)⟩,
     ⟨some 12, none, .load true 8 (.t 11)⟩,
     ⟨some 6, none, .alloc [.z (.int .i64 0), .z (.bool false), .z (.str []), .z (.str []), .z (.int .i64 0), .z (.int .i64 0), .z (.int .i64 0), .z (.int .i64 0)]⟩,
     ⟨none, none, .store 8 (.t 6) (.t 12)⟩]) <|
  .reg [0, 7, 8, 9] [⟨some 13, none, .mov (.t 0)⟩,
    ⟨some 14, none, .load true 8 (.t 6)⟩,
    ⟨some 15, none, .bslice 8 1 [.int .i64 0, .bool false, .str [], .str [], .int .i64 0, .int .i64 0, .int .i64 0, .int .i64 0] [(0, 8, (.t 14))]⟩,
    ⟨some 16, none, .faddr 0 (.t 6)⟩,
    ⟨some 17, none, .load false 1 (.t 16)⟩,
    ⟨some 18, none, .call (.c (.g (.fn 49))) [(.t 13), (.t 15), (.t 17)]⟩,
    ⟨some 0, none, .mov (.t 18)⟩]) <|
 .reg [0, 7, 8, 9] [⟨some 19, none, .bin .add (.t 9) (.c (.g (.int .i64 1)))⟩,
   ⟨some 9, none, .mov (.t 19)⟩]
def F23 : IFunc := ⟨2, 22, [.tmp 4], false,
 .seq (.reg [0, 1] [⟨some 4, none, .nres 6⟩]) <|
 .seq (.seq (.reg [0, 7, 8, 9] [⟨some 7, none, .mov (.t 1)⟩,
     ⟨some 8, none, .len (.t 7)⟩,
     ⟨some 9, none, .mov (.c (.g (.int .i64 0)))⟩]) <|
  .block [0] 0 <|
  .loop [0, 7, 8, 9] [] L23_0) <|
 .seq (.reg [4] [⟨some 20, none, .mov (.t 0)⟩,
    ⟨some 21, none, .call (.c (.g (.fn 50))) [(.t 20)]⟩,
    ⟨some 4, none, .mov (.t 21)⟩]) <|
 .ret⟩
def h23 : List (List Nat) := [[0, 1], [0, 7, 8, 9], [0], [0, 7, 8, 9], [0, 7, 8, 9, 10], [0, 7, 8, 9], [0, 7, 8, 9], [0, 6, 7, 8, 9], [0, 7, 8, 9], [0, 7, 8, 9], [4]]
theorem c23 : cFunc Try.prog 23 false h23 = some F23 := by kernel_rfl

def L24_0 : IC :=
 .seq (.seq (.reg [0, 1, 5, 9] [⟨some 6, none, .mov (.t 5)⟩,
     ⟨some 7, none, .mov (.t 1)⟩,
     ⟨some 8, none, .len (.t 7)⟩,
     ⟨some 9, none, .bin .lss (.t 6) (.t 8)⟩]) <|
  .cond [0, 1, 5] (.t 9)
   (.skip)
   (.exit 0)) <|
 .seq (.block [0, 1, 5] 1 <|
  .seq (.reg [0, 1, 5, 16] [⟨some 12, none, .mov (.t 1)⟩,
     ⟨some 13, none, .mov (.t 5)⟩,
     ⟨some 14, none, .iaddr 8 (.t 12) (.t 13)⟩,
     ⟨some 15, none, .faddr 1 (.t 14)⟩,
     ⟨some 16, none, .load false 1 (.t 15)⟩]) <|
  .cond [0, 1, 5] (.t 16)
   (.reg [0, 1, 5] [⟨some 17, none, .mov (.t 0)⟩,
      ⟨some 18, none, .mov (.t 1)⟩,
      ⟨some 19, none, .mov (.t 5)⟩,
      ⟨some 20, none, .iaddr 8 (.t 18) (.t 19)⟩,
      ⟨some 21, none, .faddr 2 (.t 20)⟩,
      ⟨some 22, none, .faddr 0 (.t 21)⟩,
      ⟨some 23, none, .load false 1 (.t 22)⟩,
      ⟨some 24, none, .call (.c (.g (.fn 51))) [(.t 17), (.t 23)]⟩,
      ⟨some 0, none, .mov (.t 24)⟩])
   (.reg [0, 1, 5] [⟨some 25, none, .mov (.t 0)⟩,
      ⟨some 26, none, .mov (.t 1)⟩,
      ⟨some 27, none, .mov (.t 5)⟩,
      ⟨some 28, none, .iaddr 8 (.t 26) (.t 27)⟩,
      ⟨some 29, none, .faddr 2 (.t 28)⟩,
      ⟨some 30, none, .load true 6 (.t 29)⟩,
      ⟨some 31, none, .call (.c (.g (.fn 52))) [(.t 25), (.t 30)]⟩,
      ⟨some 0, none, .mov (.t 31)⟩])) <|
 .reg [0, 1, 5] [⟨some 10, none, .mov (.t 5)⟩,
   ⟨some 11, none, .bin .add (.t 10) (.c (.g (.int .i64 1)))⟩,
   ⟨some 5, none, .mov (.t 11)⟩]
def F24 : IFunc := ⟨2, 33, [.tmp 4], false,
 .seq (.reg [0, 1] [⟨some 4, none, .nres 6⟩]) <|
 .seq (.seq (.reg [0, 1, 5] [⟨some 5, none, .mov (.c (.g (.int .i64 0)))⟩]) <|
  .block [0] 0 <|
  .loop [0, 1, 5] [] L24_0) <|
 .seq (.reg [4] [⟨some 32, none, .mov (.t 0)⟩,
    ⟨some 4, none, .mov (.t 32)⟩]) <|
 .ret⟩
def h24 : List (List Nat) := [[0, 1], [0, 1, 5], [0], [0, 1, 5], [0, 1, 5, 9], [0, 1, 5], [0, 1, 5], [0, 1, 5, 16], [0, 1, 5], [0, 1, 5], [0, 1, 5], [0, 1, 5], [4]]
theorem c24 : cFunc Try.prog 24 false h24 = some F24 := by kernel_rfl

def F25 : IFunc := ⟨2, 55, [.cell 4 true 4, .tmp 5, .tmp 6], false,
 .seq (.reg [1, 2, 4] [⟨some 2, none, .box (.t 0)⟩,
    ⟨some 4, none, .alloc [.z (.int .i64 0), .z (.int .i64 0), .s 6, .s 8]⟩,
    ⟨some 5, none, .nres 8⟩,
    ⟨some 6, none, .mov (.c (.g (.int .i64 0)))⟩]) <|
 .seq (.seq (.reg [1, 2, 4, 11] [⟨some 9, none, .mov (.t 1)⟩,
     ⟨some 10, none, .call (.c (.g (.fn 53))) [(.t 9)]⟩,
     ⟨some 11, none, .un .not (.t 10)⟩]) <|
  .cond [1, 2, 4] (.t 11)
   (.seq (.reg [4, 5, 6] [⟨some 12, none, .load true 4 (.t 2)⟩,
       ⟨none, none, .store 4 (.t 4) (.t 12)⟩,
       ⟨some 5, none, .nres 8⟩,
       ⟨some 6, none, .mov (.c (.g (.int .i64 1)))⟩]) <|
    .ret)
   (.skip)) <|
 .seq (.drw [2, 4, 7, 8] 0 <|
  .take ⟨some 14, none, .load true 4 (.t 2)⟩ <|
  .take ⟨some 16, none, .mov (.t 1)⟩ <|
  .take ⟨some 17, none, .faddr 0 (.t 2)⟩ <|
  .take ⟨some 18, none, .load false 1 (.t 17)⟩ <|
  .take ⟨some 19, none, .bin .add (.t 18) (.c (.g (.int .i64 1)))⟩ <|
  .one ⟨some 15, none, .call (.c (.g (.fn 29))) [(.t 14)]⟩ <|
  .one ⟨some 20, none, .call (.c (.g (.fn 54))) [(.t 15), (.t 16), (.t 19)]⟩ <|
  .take ⟨some 13, none, .mov (.t 20)⟩ <|
  .take ⟨some 21, none, .ext 0 (.t 13)⟩ <|
  .take ⟨some 22, none, .ext 1 (.t 13)⟩ <|
  .free <|
  .take ⟨some 7, none, .mov (.t 21)⟩ <|
  .take ⟨some 8, none, .mov (.t 22)⟩ <|
  .leaf) <|
 .seq (.seq (.reg [2, 4, 7, 8, 25] [⟨some 23, none, .mov (.t 7)⟩,
     ⟨some 24, none, .len (.t 23)⟩,
     ⟨some 25, none, .bin .eql (.t 24) (.c (.g (.int .i64 0)))⟩]) <|
  .cond [2, 4, 7, 8] (.t 25)
   (.seq (.reg [4, 5, 6] [⟨some 26, none, .load true 4 (.t 2)⟩,
       ⟨none, none, .store 4 (.t 4) (.t 26)⟩,
       ⟨some 5, none, .nres 8⟩,
       ⟨some 6, none, .mov (.c (.g (.int .i64 0)))⟩]) <|
    .ret)
   (.skip)) <|
 .seq (.seq (.reg [2, 4, 7, 41] [⟨some 27, none, .mov (.t 8)⟩,
     ⟨some 28, none, .mov (.t 27)⟩,
     ⟨some 29, (some (28, false)), .faddr 0 (.t 2)⟩,
     ⟨some 30, (some (28, false)), .load false 1 (.t 29)⟩,
     ⟨some 31, (some (28, false)), .bin .eql (.t 30) (.c (.g (.int .i64 1099511627774)))⟩,
     ⟨some 32, none, .pick (.t 28) (.c (.g (.bool true))) (.t 31)⟩,
     ⟨some 33, none, .mov (.t 32)⟩,
     ⟨some 34, (some (33, false)), .faddr 3 (.t 2)⟩,
     ⟨some 35, (some (33, false)), .load false 1 (.t 34)⟩,
     ⟨some 36, (some (33, false)), .len (.t 35)⟩,
     ⟨some 37, (some (33, false)), .mov (.t 7)⟩,
     ⟨some 38, (some (33, false)), .len (.t 37)⟩,
     ⟨some 39, (some (33, false)), .bin .add (.t 36) (.t 38)⟩,
     ⟨some 40, (some (33, false)), .bin .gtr (.t 39) (.c (.g (.int .i64 60)))⟩,
     ⟨some 41, none, .pick (.t 33) (.c (.g (.bool true))) (.t 40)⟩]) <|
  .cond [2, 4, 7] (.t 41)
   (.seq (.reg [4, 5, 6] [⟨some 42, none, .load true 4 (.t 2)⟩,
       ⟨none, none, .store 4 (.t 4) (.t 42)⟩,
       ⟨some 5, none, .nres 8⟩,
       ⟨some 6, none, .mov (.c (.g (.int .i64 4)))⟩]) <|
    .ret)
   (.skip)) <|
 .seq (.reg [2, 4, 7] [⟨some 43, none, .faddr 0 (.t 2)⟩,
    ⟨some 44, none, .load false 1 (.t 43)⟩,
    ⟨some 45, none, .bin .add (.t 44) (.c (.g (.int .i64 1)))⟩,
    ⟨some 46, none, .faddr 0 (.t 2)⟩,
    ⟨none, none, .store 1 (.t 46) (.t 45)⟩]) <|
 .seq (.reg [2, 4, 7] [⟨some 47, none, .faddr 3 (.t 2)⟩,
    ⟨some 48, none, .load false 1 (.t 47)⟩,
    ⟨some 49, none, .mov (.t 7)⟩,
    ⟨some 50, none, .bslice 1 2 [.nsl] [(0, 1, (.t 48)), (1, 1, (.t 49))]⟩,
    ⟨some 51, none, .call (.c (.g (.fn 55))) [(.t 50)]⟩,
    ⟨some 52, none, .faddr 3 (.t 2)⟩,
    ⟨none, none, .store 1 (.t 52) (.t 51)⟩]) <|
 .seq (.reg [4, 5, 6] [⟨some 53, none, .load true 4 (.t 2)⟩,
    ⟨some 54, none, .mov (.t 7)⟩,
    ⟨none, none, .store 4 (.t 4) (.t 53)⟩,
    ⟨some 5, none, .mov (.t 54)⟩,
    ⟨some 6, none, .mov (.c (.g (.int .i64 0)))⟩]) <|
 .ret⟩
def h25 : List (List Nat) := [[1, 2, 4], [1, 2, 4, 11], [1, 2, 4], [4, 5, 6], [2, 4, 7, 8], [], [2, 4, 7, 8, 25], [2, 4, 7, 8], [4, 5, 6], [2, 4, 7, 41], [2, 4, 7], [4, 5, 6], [2, 4, 7], [2, 4, 7], [4, 5, 6]]
theorem c25 : cFunc Try.prog 25 false h25 = some F25 := by kernel_rfl

def F26 : IFunc := ⟨2, 38, [.cell 4 true 4, .tmp 5], false,
 .seq (.reg [2, 3, 4] [⟨some 2, none, .box (.t 0)⟩,
    ⟨some 3, none, .box (.t 1)⟩,
    ⟨some 4, none, .alloc [.z (.int .i64 0), .z (.int .i64 0), .s 6, .s 8]⟩,
    ⟨some 5, none, .mov (.c (.g (.int .i64 0)))⟩]) <|
 .seq (.block [2, 3, 4] 0 <|
  .seq (.reg [2, 3, 4, 6] [⟨some 7, none, .load false 1 (.t 3)⟩,
     ⟨some 8, none, .bin .lss (.t 7) (.c (.g (.int .i64 0)))⟩,
     ⟨some 9, none, .mov (.t 8)⟩,
     ⟨some 10, (some (9, false)), .load false 1 (.t 3)⟩,
     ⟨some 11, (some (9, false)), .faddr 0 (.t 2)⟩,
     ⟨some 12, (some (9, false)), .load false 1 (.t 11)⟩,
     ⟨some 13, (some (9, false)), .bin .gtr (.t 10) (.t 12)⟩,
     ⟨some 14, none, .pick (.t 9) (.c (.g (.bool true))) (.t 13)⟩,
     ⟨some 6, none, .mov (.t 14)⟩]) <|
  .cond [2, 3, 4] (.t 6)
   (.seq (.reg [4, 5] [⟨some 15, none, .load true 4 (.t 2)⟩,
       ⟨none, none, .store 4 (.t 4) (.t 15)⟩,
       ⟨some 5, none, .mov (.c (.g (.int .i64 8)))⟩]) <|
    .ret)
   (.seq (.reg [2, 3, 4, 16] [⟨some 17, none, .load false 1 (.t 3)⟩,
       ⟨some 18, none, .faddr 1 (.t 2)⟩,
       ⟨some 19, none, .load false 1 (.t 18)⟩,
       ⟨some 20, none, .bin .lss (.t 17) (.t 19)⟩,
       ⟨some 16, none, .mov (.t 20)⟩]) <|
    .cond [2, 3, 4] (.t 16)
     (.seq (.reg [4, 5] [⟨some 21, none, .load true 4 (.t 2)⟩,
         ⟨none, none, .store 4 (.t 4) (.t 21)⟩,
         ⟨some 5, none, .mov (.c (.g (.int .i64 9)))⟩]) <|
      .ret)
     (.skip))) <|
 .seq (.reg [2, 3, 4] [⟨some 22, none, .faddr 2 (.t 2)⟩,
    ⟨some 23, none, .load false 1 (.t 22)⟩,
    ⟨some 24, none, .faddr 3 (.t 2)⟩,
    ⟨some 25, none, .load false 1 (.t 24)⟩,
    ⟨some 26, none, .load false 1 (.t 3)⟩,
    ⟨some 27, none, .call (.c (.g (.fn 49))) [(.t 23), (.t 25), (.t 26)]⟩,
    ⟨some 28, none, .faddr 2 (.t 2)⟩,
    ⟨none, none, .store 1 (.t 28) (.t 27)⟩]) <|
 .seq (.reg [2, 3, 4] [⟨some 29, none, .load false 1 (.t 3)⟩,
    ⟨some 30, none, .faddr 1 (.t 2)⟩,
    ⟨none, none, .store 1 (.t 30) (.t 29)⟩]) <|
 .seq (.reg [2, 4] [⟨some 31, none, .faddr 3 (.t 2)⟩,
    ⟨some 32, none, .load false 1 (.t 31)⟩,
    ⟨some 33, none, .call (.c (.g (.fn 57))) [(.t 32)]⟩,
    ⟨some 34, none, .mkfn 58 [(.t 3)]⟩,
    ⟨some 35, none, .call (.c (.g (.fn 56))) [(.t 33), (.t 34)]⟩,
    ⟨some 36, none, .faddr 3 (.t 2)⟩,
    ⟨none, none, .store 1 (.t 36) (.t 35)⟩]) <|
 .seq (.reg [4, 5] [⟨some 37, none, .load true 4 (.t 2)⟩,
    ⟨none, none, .store 4 (.t 4) (.t 37)⟩,
    ⟨some 5, none, .mov (.c (.g (.int .i64 0)))⟩]) <|
 .ret⟩
def h26 : List (List Nat) := [[2, 3, 4], [2, 3, 4], [2, 3, 4, 6], [2, 3, 4], [4, 5], [2, 3, 4, 16], [2, 3, 4], [4, 5], [2, 3, 4], [2, 3, 4], [2, 4], [4, 5]]
theorem c26 : cFunc Try.prog 26 false h26 = some F26 := by kernel_rfl

def F27 : IFunc := ⟨2, 31, [.tmp 4, .tmp 5], false,
 .seq (.reg [1, 2] [⟨some 2, none, .box (.t 0)⟩,
    ⟨some 4, none, .nres 6⟩,
    ⟨some 5, none, .mov (.c (.g (.int .i64 0)))⟩]) <|
 .seq (.block [1, 2] 0 <|
  .seq (.reg [1, 2, 6] [⟨some 7, none, .mov (.t 1)⟩,
     ⟨some 8, none, .bin .eql (.t 7) (.c (.g (.int .i64 0)))⟩,
     ⟨some 6, none, .mov (.t 8)⟩]) <|
  .cond [1, 2] (.t 6)
   (.reg [1, 2] [⟨some 9, none, .faddr 0 (.t 2)⟩,
      ⟨some 10, none, .load false 1 (.t 9)⟩,
      ⟨some 1, none, .mov (.t 10)⟩])
   (.seq (.reg [1, 2, 11] [⟨some 12, none, .mov (.t 1)⟩,
       ⟨some 13, none, .bin .lss (.t 12) (.c (.g (.int .i64 0)))⟩,
       ⟨some 14, none, .mov (.t 13)⟩,
       ⟨some 15, (some (14, false)), .mov (.t 1)⟩,
       ⟨some 16, (some (14, false)), .faddr 0 (.t 2)⟩,
       ⟨some 17, (some (14, false)), .load false 1 (.t 16)⟩,
       ⟨some 18, (some (14, false)), .bin .gtr (.t 15) (.t 17)⟩,
       ⟨some 19, none, .pick (.t 14) (.c (.g (.bool true))) (.t 18)⟩,
       ⟨some 11, none, .mov (.t 19)⟩]) <|
    .cond [1, 2] (.t 11)
     (.seq (.reg [4, 5] [⟨some 4, none, .nres 6⟩,
         ⟨some 5, none, .mov (.c (.g (.int .i64 8)))⟩]) <|
      .ret)
     (.seq (.reg [1, 2, 20] [⟨some 21, none, .mov (.t 1)⟩,
         ⟨some 22, none, .faddr 1 (.t 2)⟩,
         ⟨some 23, none, .load false 1 (.t 22)⟩,
         ⟨some 24, none, .bin .lss (.t 21) (.t 23)⟩,
         ⟨some 20, none, .mov (.t 24)⟩]) <|
      .cond [1, 2] (.t 20)
       (.seq (.reg [4, 5] [⟨some 4, none, .nres 6⟩,
           ⟨some 5, none, .mov (.c (.g (.int .i64 9)))⟩]) <|
        .ret)
       (.skip)))) <|
 .seq (.reg [4, 5] [⟨some 25, none, .faddr 2 (.t 2)⟩,
    ⟨some 26, none, .load false 1 (.t 25)⟩,
    ⟨some 27, none, .faddr 3 (.t 2)⟩,
    ⟨some 28, none, .load false 1 (.t 27)⟩,
    ⟨some 29, none, .mov (.t 1)⟩,
    ⟨some 30, none, .call (.c (.g (.fn 49))) [(.t 26), (.t 28), (.t 29)]⟩,
    ⟨some 4, none, .mov (.t 30)⟩,
    ⟨some 5, none, .mov (.c (.g (.int .i64 0)))⟩]) <|
 .ret⟩
def h27 : List (List Nat) := [[1, 2], [1, 2], [1, 2, 6], [1, 2], [1, 2], [1, 2, 11], [1, 2], [4, 5], [1, 2, 20], [1, 2], [4, 5], [4, 5]]
theorem c27 : cFunc Try.prog 27 false h27 = some F27 := by kernel_rfl

def L28_0 : IC :=
 .seq (.seq (.reg [0, 1, 5, 6, 10] [⟨some 7, none, .mov (.t 6)⟩,
     ⟨some 8, none, .mov (.t 0)⟩,
     ⟨some 9, none, .len (.t 8)⟩,
     ⟨some 10, none, .bin .lss (.t 7) (.t 9)⟩]) <|
  .cond [0, 1, 5, 6] (.t 10)
   (.skip)
   (.exit 0)) <|
 .seq (.block [0, 1, 5, 6] 1 <|
  .seq (.reg [0, 1, 5, 6, 33] [⟨some 13, none, .mov (.t 0)⟩,
     ⟨some 14, none, .mov (.t 6)⟩,
     ⟨some 15, none, .iaddr 6 (.t 13) (.t 14)⟩,
     ⟨some 16, none, .faddr 0 (.t 15)⟩,
     ⟨some 17, none, .load false 1 (.t 16)⟩,
     ⟨some 18, none, .lenS (.t 17)⟩,
     ⟨some 19, none, .mov (.t 1)⟩,
     ⟨some 20, none, .lenS (.t 19)⟩,
     ⟨some 21, none, .bin .geq (.t 18) (.t 20)⟩,
     ⟨some 22, none, .mov (.t 21)⟩,
     ⟨some 23, (some (22, true)), .mov (.t 0)⟩,
     ⟨some 24, (some (22, true)), .mov (.t 6)⟩,
     ⟨some 25, (some (22, true)), .iaddr 6 (.t 23) (.t 24)⟩,
     ⟨some 26, (some (22, true)), .faddr 0 (.t 25)⟩,
     ⟨some 27, (some (22, true)), .load false 1 (.t 26)⟩,
     ⟨some 28, (some (22, true)), .mov (.t 1)⟩,
     ⟨some 29, (some (22, true)), .lenS (.t 28)⟩,
     ⟨some 30, (some (22, true)), .slcS (.t 27) none (some (.t 29))⟩,
     ⟨some 31, (some (22, true)), .mov (.t 1)⟩,
     ⟨some 32, (some (22, true)), .bin .eql (.t 30) (.t 31)⟩,
     ⟨some 33, none, .pick (.t 22) (.t 32) (.c (.g (.bool false)))⟩]) <|
  .cond [0, 1, 5, 6] (.t 33)
   (.reg [0, 1, 5, 6] [⟨some 34, none, .mov (.t 5)⟩,
      ⟨some 35, none, .mov (.t 0)⟩,
      ⟨some 36, none, .mov (.t 6)⟩,
      ⟨some 37, none, .iaddr 6 (.t 35) (.t 36)⟩,
      ⟨some 38, none, .load true 6 (.t 37)⟩,
      ⟨some 39, none, .bslice 6 1 [.str [], .str [], .int .i64 0, .int .i64 0, .int .i64 0, .int .i64 0] [(0, 6, (.t 38))]⟩,
      ⟨some 40, none, .app 6 64 (.t 34) (.t 39)⟩,
      ⟨some 5, none, .mov (.t 40)⟩])
   (.skip)) <|
 .reg [0, 1, 5, 6] [⟨some 11, none, .mov (.t 6)⟩,
   ⟨some 12, none, .bin .add (.t 11) (.c (.g (.int .i64 1)))⟩,
   ⟨some 6, none, .mov (.t 12)⟩]
def F28 : IFunc := ⟨2, 42, [.tmp 4], false,
 .seq (.reg [0, 1] [⟨some 4, none, .nres 6⟩]) <|
 .seq (.reg [0, 1, 5] [⟨some 5, none, .nres 6⟩]) <|
 .seq (.seq (.reg [0, 1, 5, 6] [⟨some 6, none, .mov (.c (.g (.int .i64 0)))⟩]) <|
  .block [5] 0 <|
  .loop [0, 1, 5, 6] [] L28_0) <|
 .seq (.reg [4] [⟨some 41, none, .mov (.t 5)⟩,
    ⟨some 4, none, .mov (.t 41)⟩]) <|
 .ret⟩
def h28 : List (List Nat) := [[0, 1], [0, 1, 5], [0, 1, 5, 6], [5], [0, 1, 5, 6], [0, 1, 5, 6, 10], [0, 1, 5, 6], [0, 1, 5, 6], [0, 1, 5, 6, 33], [0, 1, 5, 6], [0, 1, 5, 6], [0, 1, 5, 6], [4]]
theorem c28 : cFunc Try.prog 28 false h28 = some F28 := by kernel_rfl

def F29 : IFunc := ⟨1, 10, [.tmp 2], false,
 .seq (.reg [1] [⟨some 1, none, .box (.t 0)⟩,
    ⟨some 2, none, .nres 6⟩]) <|
 .seq (.reg [2] [⟨some 3, none, .faddr 2 (.t 1)⟩,
    ⟨some 4, none, .load false 1 (.t 3)⟩,
    ⟨some 5, none, .faddr 3 (.t 1)⟩,
    ⟨some 6, none, .load false 1 (.t 5)⟩,
    ⟨some 7, none, .faddr 0 (.t 1)⟩,
    ⟨some 8, none, .load false 1 (.t 7)⟩,
    ⟨some 9, none, .call (.c (.g (.fn 49))) [(.t 4), (.t 6), (.t 8)]⟩,
    ⟨some 2, none, .mov (.t 9)⟩]) <|
 .ret⟩
def h29 : List (List Nat) := [[1], [2]]
theorem c29 : cFunc Try.prog 29 false h29 = some F29 := by kernel_rfl

def L30_0 : IC :=
 .seq (.seq (.reg [1, 3, 18] [⟨some 14, none, .mov (.t 3)⟩,
     ⟨some 15, none, .faddr 0 (.t 1)⟩,
     ⟨some 16, none, .load false 1 (.t 15)⟩,
     ⟨some 17, none, .len (.t 16)⟩,
     ⟨some 18, none, .bin .lss (.t 14) (.t 17)⟩]) <|
  .cond [1, 3] (.t 18)
   (.skip)
   (.exit 0)) <|
 .seq (.block [1, 3] 1 <|
  .seq (.reg [1, 3, 40] [⟨some 21, none, .faddr 0 (.t 1)⟩,
     ⟨some 22, none, .load false 1 (.t 21)⟩,
     ⟨some 23, none, .mov (.t 3)⟩,
     ⟨some 24, none, .iaddr 11 (.t 22) (.t 23)⟩,
     ⟨some 25, none, .faddr 2 (.t 24)⟩,
     ⟨some 26, none, .faddr 7 (.t 25)⟩,
     ⟨some 27, none, .load false 1 (.t 26)⟩,
     ⟨some 28, none, .call (.c (.g (.fn 19))) [(.t 27), (.c (.g (.int .i64 40)))]⟩,
     ⟨some 29, none, .un .not (.t 28)⟩,
     ⟨some 30, none, .mov (.t 29)⟩,
     ⟨some 31, (some (30, false)), .faddr 0 (.t 1)⟩,
     ⟨some 32, (some (30, false)), .load false 1 (.t 31)⟩,
     ⟨some 33, (some (30, false)), .mov (.t 3)⟩,
     ⟨some 34, (some (30, false)), .iaddr 11 (.t 32) (.t 33)⟩,
     ⟨some 35, (some (30, false)), .faddr 2 (.t 34)⟩,
     ⟨some 36, (some (30, false)), .faddr 8 (.t 35)⟩,
     ⟨some 37, (some (30, false)), .load false 1 (.t 36)⟩,
     ⟨some 38, (some (30, false)), .call (.c (.g (.fn 31))) [(.t 37), (.c (.g (.int .i64 40)))]⟩,
     ⟨some 39, (some (30, false)), .un .not (.t 38)⟩,
     ⟨some 40, none, .pick (.t 30) (.c (.g (.bool true))) (.t 39)⟩]) <|
  .cond [1, 3] (.t 40)
   (.seq (.reg [2] [⟨some 2, none, .mov (.c (.g (.bool false)))⟩]) <|
    .ret)
   (.skip)) <|
 .reg [1, 3] [⟨some 19, none, .mov (.t 3)⟩,
   ⟨some 20, none, .bin .add (.t 19) (.c (.g (.int .i64 1)))⟩,
   ⟨some 3, none, .mov (.t 20)⟩]
def F30 : IFunc := ⟨1, 41, [.tmp 2], false,
 .seq (.reg [1] [⟨some 1, none, .box (.t 0)⟩,
    ⟨some 2, none, .mov (.c (.g (.bool false)))⟩]) <|
 .seq (.seq (.reg [1, 13] [⟨some 4, none, .faddr 0 (.t 1)⟩,
     ⟨some 5, none, .load false 1 (.t 4)⟩,
     ⟨some 6, none, .len (.t 5)⟩,
     ⟨some 7, none, .bin .gtr (.t 6) (.c (.g (.int .i64 40)))⟩,
     ⟨some 8, none, .mov (.t 7)⟩,
     ⟨some 9, (some (8, false)), .faddr 1 (.t 1)⟩,
     ⟨some 10, (some (8, false)), .load false 1 (.t 9)⟩,
     ⟨some 11, (some (8, false)), .len (.t 10)⟩,
     ⟨some 12, (some (8, false)), .bin .gtr (.t 11) (.c (.g (.int .i64 20)))⟩,
     ⟨some 13, none, .pick (.t 8) (.c (.g (.bool true))) (.t 12)⟩]) <|
  .cond [1] (.t 13)
   (.seq (.reg [2] [⟨some 2, none, .mov (.c (.g (.bool false)))⟩]) <|
    .ret)
   (.skip)) <|
 .seq (.seq (.reg [1, 3] [⟨some 3, none, .mov (.c (.g (.int .i64 0)))⟩]) <|
  .block [] 0 <|
  .loop [1, 3] [] L30_0) <|
 .seq (.reg [2] [⟨some 2, none, .mov (.c (.g (.bool true)))⟩]) <|
 .ret⟩
def h30 : List (List Nat) := [[1], [1, 13], [1], [2], [1, 3], [], [1, 3], [1, 3, 18], [1, 3], [1, 3], [1, 3, 40], [1, 3], [2], [1, 3], [2]]
theorem c30 : cFunc Try.prog 30 false h30 = some F30 := by kernel_rfl

def L31_0 : IC :=
 .seq (.seq (.reg [0, 5, 13] [⟨some 10, none, .mov (.t 5)⟩,
     ⟨some 11, none, .mov (.t 0)⟩,
     ⟨some 12, none, .len (.t 11)⟩,
     ⟨some 13, none, .bin .lss (.t 10) (.t 12)⟩]) <|
  .cond [0, 5] (.t 13)
   (.skip)
   (.exit 0)) <|
 .seq (.block [0, 5] 1 <|
  .seq (.reg [0, 5, 33] [⟨some 16, none, .mov (.t 0)⟩,
     ⟨some 17, none, .mov (.t 5)⟩,
     ⟨some 18, none, .iaddr 8 (.t 16) (.t 17)⟩,
     ⟨some 19, none, .faddr 2 (.t 18)⟩,
     ⟨some 20, none, .faddr 0 (.t 19)⟩,
     ⟨some 21, none, .load false 1 (.t 20)⟩,
     ⟨some 22, none, .lenS (.t 21)⟩,
     ⟨some 23, none, .bin .gtr (.t 22) (.c (.g (.int .i64 60)))⟩,
     ⟨some 24, none, .mov (.t 23)⟩,
     ⟨some 25, (some (24, false)), .mov (.t 0)⟩,
     ⟨some 26, (some (24, false)), .mov (.t 5)⟩,
     ⟨some 27, (some (24, false)), .iaddr 8 (.t 25) (.t 26)⟩,
     ⟨some 28, (some (24, false)), .faddr 2 (.t 27)⟩,
     ⟨some 29, (some (24, false)), .faddr 1 (.t 28)⟩,
     ⟨some 30, (some (24, false)), .load false 1 (.t 29)⟩,
     ⟨some 31, (some (24, false)), .lenS (.t 30)⟩,
     ⟨some 32, (some (24, false)), .bin .gtr (.t 31) (.c (.g (.int .i64 60)))⟩,
     ⟨some 33, none, .pick (.t 24) (.c (.g (.bool true))) (.t 32)⟩]) <|
  .cond [0, 5] (.t 33)
   (.seq (.reg [4] [⟨some 4, none, .mov (.c (.g (.bool false)))⟩]) <|
    .ret)
   (.skip)) <|
 .reg [0, 5] [⟨some 14, none, .mov (.t 5)⟩,
   ⟨some 15, none, .bin .add (.t 14) (.c (.g (.int .i64 1)))⟩,
   ⟨some 5, none, .mov (.t 15)⟩]
def F31 : IFunc := ⟨2, 34, [.tmp 4], false,
 .seq (.reg [0, 1] [⟨some 4, none, .mov (.c (.g (.bool false)))⟩]) <|
 .seq (.seq (.reg [0, 9] [⟨some 6, none, .mov (.t 0)⟩,
     ⟨some 7, none, .len (.t 6)⟩,
     ⟨some 8, none, .mov (.t 1)⟩,
     ⟨some 9, none, .bin .gtr (.t 7) (.t 8)⟩]) <|
  .cond [0] (.t 9)
   (.seq (.reg [4] [⟨some 4, none, .mov (.c (.g (.bool false)))⟩]) <|
    .ret)
   (.skip)) <|
 .seq (.seq (.reg [0, 5] [⟨some 5, none, .mov (.c (.g (.int .i64 0)))⟩]) <|
  .block [] 0 <|
  .loop [0, 5] [] L31_0) <|
 .seq (.reg [4] [⟨some 4, none, .mov (.c (.g (.bool true)))⟩]) <|
 .ret⟩
def h31 : List (List Nat) := [[0, 1], [0, 9], [0], [4], [0, 5], [], [0, 5], [0, 5, 13], [0, 5], [0, 5], [0, 5, 33], [0, 5], [4], [0, 5], [4]]
theorem c31 : cFunc Try.prog 31 false h31 = some F31 := by kernel_rfl

def L32_0 : IC :=
 .seq (.seq (.reg [1, 2, 20] [⟨some 19, none, .mov (.t 2)⟩,
     ⟨some 20, none, .bin .leq (.t 19) (.c (.g (.int .i64 5)))⟩]) <|
  .cond [1, 2] (.t 20)
   (.skip)
   (.exit 0)) <|
 .seq (.block [1, 2] 1 <|
  .seq (.reg [1, 2, 3, 4] [⟨some 24, none, .load true 2 (.t 1)⟩,
     ⟨some 25, none, .mov (.t 2)⟩,
     ⟨some 26, none, .mov (.t 2)⟩,
     ⟨some 27, none, .build [.g (.int .i64 0), .g (.int .i64 0), .g (.int .i64 0), .g (.int .i64 0), .g (.int .i64 0), .g (.int .i64 0), .g (.bool false), .g (.nsl), .g (.nsl)] [(3, 1, (.t 26))]⟩,
     ⟨some 28, none, .call (.c (.g (.fn 35))) [(.t 24), (.c (.g (.int .i64 7))), (.t 25), (.t 27)]⟩,
     ⟨some 23, none, .mov (.t 28)⟩,
     ⟨some 29, none, .ext 0 (.t 23)⟩,
     ⟨some 30, none, .ext 1 (.t 23)⟩,
     ⟨some 3, none, .alloc [.s 11, .s 2]⟩,
     ⟨none, none, .store 2 (.t 3) (.t 29)⟩,
     ⟨some 4, none, .mov (.t 30)⟩]) <|
  .seq (.seq (.reg [1, 2, 3, 32] [⟨some 31, none, .mov (.t 4)⟩,
      ⟨some 32, none, .bin .neq (.t 31) (.c (.g (.int .i64 0)))⟩]) <|
   .cond [1, 2, 3] (.t 32)
    (.seq (.reg [0] [⟨some 0, none, .mov (.c (.g (.bool false)))⟩]) <|
     .ret)
    (.skip)) <|
  .reg [1, 2] [⟨some 33, none, .load true 2 (.t 3)⟩,
    ⟨none, none, .store 2 (.t 1) (.t 33)⟩]) <|
 .reg [1, 2] [⟨some 21, none, .mov (.t 2)⟩,
   ⟨some 22, none, .bin .add (.t 21) (.c (.g (.int .i64 1)))⟩,
   ⟨some 2, none, .mov (.t 22)⟩]
def F32 : IFunc := ⟨0, 142, [.tmp 0], false,
 .seq (.reg [] [⟨some 0, none, .mov (.c (.g (.bool false)))⟩]) <|
 .seq (.reg [1] [⟨some 18, none, .build [.g (.nsl), .g (.nsl)] []⟩,
    ⟨some 1, none, .alloc [.s 11, .s 2]⟩,
    ⟨none, none, .store 2 (.t 1) (.t 18)⟩]) <|
 .seq (.seq (.reg [1, 2] [⟨some 2, none, .mov (.c (.g (.int .i64 1)))⟩]) <|
  .block [1] 0 <|
  .loop [1, 2] [] L32_0) <|
 .seq (.reg [1, 5, 6, 7] [⟨some 35, none, .load true 2 (.t 1)⟩,
    ⟨some 36, none, .call (.c (.g (.fn 33))) [(.t 35), (.c (.g (.int .i64 7))), (.c (.g (.int .i64 3)))]⟩,
    ⟨some 34, none, .mov (.t 36)⟩,
    ⟨some 37, none, .ext 0 (.t 34)⟩,
    ⟨some 38, none, .ext 1 (.t 34)⟩,
    ⟨some 39, none, .ext 2 (.t 34)⟩,
    ⟨some 5, none, .alloc [.z (.int .i64 0), .z (.int .i64 0), .z (.int .i64 0), .z (.int .i64 0), .z (.int .i64 0), .z (.int .i64 0), .z (.bool false), .s 6, .s 8]⟩,
    ⟨none, none, .store 9 (.t 5) (.t 37)⟩,
    ⟨some 6, none, .mov (.t 38)⟩,
    ⟨some 7, none, .mov (.t 39)⟩]) <|
 .seq (.reg [1, 5, 6, 7, 9, 10] [⟨some 41, none, .load true 2 (.t 1)⟩,
    ⟨some 42, none, .call (.c (.g (.fn 33))) [(.t 41), (.c (.g (.int .i64 7))), (.c (.g (.int .i64 1)))]⟩,
    ⟨some 40, none, .mov (.t 42)⟩,
    ⟨some 43, none, .ext 0 (.t 40)⟩,
    ⟨some 44, none, .ext 1 (.t 40)⟩,
    ⟨some 45, none, .ext 2 (.t 40)⟩,
    ⟨some 8, none, .alloc [.z (.int .i64 0), .z (.int .i64 0), .z (.int .i64 0), .z (.int .i64 0), .z (.int .i64 0), .z (.int .i64 0), .z (.bool false), .s 6, .s 8]⟩,
    ⟨none, none, .store 9 (.t 8) (.t 43)⟩,
    ⟨some 9, none, .mov (.t 44)⟩,
    ⟨some 10, none, .mov (.t 45)⟩]) <|
 .seq (.reg [1, 5, 6, 7, 9, 10, 12, 13] [⟨some 47, none, .load true 2 (.t 1)⟩,
    ⟨some 48, none, .call (.c (.g (.fn 33))) [(.t 47), (.c (.g (.int .i64 7))), (.c (.g (.int .i64 6)))]⟩,
    ⟨some 46, none, .mov (.t 48)⟩,
    ⟨some 49, none, .ext 0 (.t 46)⟩,
    ⟨some 50, none, .ext 1 (.t 46)⟩,
    ⟨some 51, none, .ext 2 (.t 46)⟩,
    ⟨some 11, none, .alloc [.z (.int .i64 0), .z (.int .i64 0), .z (.int .i64 0), .z (.int .i64 0), .z (.int .i64 0), .z (.int .i64 0), .z (.bool false), .s 6, .s 8]⟩,
    ⟨none, none, .store 9 (.t 11) (.t 49)⟩,
    ⟨some 12, none, .mov (.t 50)⟩,
    ⟨some 13, none, .mov (.t 51)⟩]) <|
 .seq (.reg [1, 5, 6, 7, 9, 10, 12, 13, 15] [⟨some 53, none, .load true 2 (.t 1)⟩,
    ⟨some 54, none, .build [.g (.int .i64 0), .g (.int .i64 0), .g (.int .i64 0), .g (.int .i64 0), .g (.int .i64 0), .g (.int .i64 0), .g (.bool false), .g (.nsl), .g (.nsl)] []⟩,
    ⟨some 55, none, .call (.c (.g (.fn 35))) [(.t 53), (.c (.g (.int .i64 7))), (.c (.g (.int .i64 3))), (.t 54)]⟩,
    ⟨some 52, none, .mov (.t 55)⟩,
    ⟨some 56, none, .ext 0 (.t 52)⟩,
    ⟨some 57, none, .ext 1 (.t 52)⟩,
    ⟨some 14, none, .alloc [.s 11, .s 2]⟩,
    ⟨none, none, .store 2 (.t 14) (.t 56)⟩,
    ⟨some 15, none, .mov (.t 57)⟩]) <|
 .seq (.reg [1, 5, 6, 7, 9, 10, 12, 13, 15, 16] [⟨some 58, none, .load true 2 (.t 1)⟩,
    ⟨some 59, none, .call (.c (.g (.fn 41))) [(.t 58), (.c (.g (.int .i64 7)))]⟩,
    ⟨some 16, none, .mov (.t 59)⟩]) <|
 .seq (.reg [1, 5, 6, 7, 9, 10, 12, 13, 15, 16, 17] [⟨some 60, none, .load true 2 (.t 1)⟩,
    ⟨some 61, none, .call (.c (.g (.fn 42))) [(.t 60)]⟩,
    ⟨some 17, none, .mov (.t 61)⟩]) <|
 .seq (.reg [0] [⟨some 62, none, .faddr 3 (.t 5)⟩,
    ⟨some 63, none, .load false 1 (.t 62)⟩,
    ⟨some 64, none, .bin .eql (.t 63) (.c (.g (.int .i64 3)))⟩,
    ⟨some 65, none, .mov (.t 64)⟩,
    ⟨some 66, (some (65, true)), .mov (.t 6)⟩,
    ⟨some 67, none, .pick (.t 65) (.t 66) (.c (.g (.bool false)))⟩,
    ⟨some 68, none, .mov (.t 67)⟩,
    ⟨some 69, (some (68, true)), .mov (.t 7)⟩,
    ⟨some 70, (some (68, true)), .bin .eql (.t 69) (.c (.g (.int .i64 0)))⟩,
    ⟨some 71, none, .pick (.t 68) (.t 70) (.c (.g (.bool false)))⟩,
    ⟨some 72, none, .mov (.t 71)⟩,
    ⟨some 73, (some (72, true)), .mov (.t 9)⟩,
    ⟨some 74, (some (72, true)), .un .not (.t 73)⟩,
    ⟨some 75, none, .pick (.t 72) (.t 74) (.c (.g (.bool false)))⟩,
    ⟨some 76, none, .mov (.t 75)⟩,
    ⟨some 77, (some (76, true)), .mov (.t 10)⟩,
    ⟨some 78, (some (76, true)), .bin .eql (.t 77) (.c (.g (.int .i64 7)))⟩,
    ⟨some 79, none, .pick (.t 76) (.t 78) (.c (.g (.bool false)))⟩,
    ⟨some 80, none, .mov (.t 79)⟩,
    ⟨some 81, (some (80, true)), .mov (.t 12)⟩,
    ⟨some 82, (some (80, true)), .un .not (.t 81)⟩,
    ⟨some 83, none, .pick (.t 80) (.t 82) (.c (.g (.bool false)))⟩,
    ⟨some 84, none, .mov (.t 83)⟩,
    ⟨some 85, (some (84, true)), .mov (.t 13)⟩,
    ⟨some 86, (some (84, true)), .bin .eql (.t 85) (.c (.g (.int .i64 0)))⟩,
    ⟨some 87, none, .pick (.t 84) (.t 86) (.c (.g (.bool false)))⟩,
    ⟨some 88, none, .mov (.t 87)⟩,
    ⟨some 89, (some (88, true)), .mov (.t 15)⟩,
    ⟨some 90, (some (88, true)), .bin .eql (.t 89) (.c (.g (.int .i64 11)))⟩,
    ⟨some 91, none, .pick (.t 88) (.t 90) (.c (.g (.bool false)))⟩,
    ⟨some 92, none, .mov (.t 91)⟩,
    ⟨some 93, (some (92, true)), .mov (.t 16)⟩,
    ⟨some 94, (some (92, true)), .len (.t 93)⟩,
    ⟨some 95, (some (92, true)), .bin .eql (.t 94) (.c (.g (.int .i64 4)))⟩,
    ⟨some 96, none, .pick (.t 92) (.t 95) (.c (.g (.bool false)))⟩,
    ⟨some 97, none, .mov (.t 96)⟩,
    ⟨some 98, (some (97, true)), .mov (.t 16)⟩,
    ⟨some 99, (some (97, true)), .iaddr 1 (.t 98) (.c (.g (.int .i64 0)))⟩,
    ⟨some 100, (some (97, true)), .load false 1 (.t 99)⟩,
    ⟨some 101, (some (97, true)), .bin .eql (.t 100) (.c (.g (.int .i64 2)))⟩,
    ⟨some 102, none, .pick (.t 97) (.t 101) (.c (.g (.bool false)))⟩,
    ⟨some 103, none, .mov (.t 102)⟩,
    ⟨some 104, (some (103, true)), .mov (.t 16)⟩,
    ⟨some 105, (some (103, true)), .iaddr 1 (.t 104) (.c (.g (.int .i64 3)))⟩,
    ⟨some 106, (some (103, true)), .load false 1 (.t 105)⟩,
    ⟨some 107, (some (103, true)), .bin .eql (.t 106) (.c (.g (.int .i64 5)))⟩,
    ⟨some 108, none, .pick (.t 103) (.t 107) (.c (.g (.bool false)))⟩,
    ⟨some 109, none, .mov (.t 108)⟩,
    ⟨some 110, (some (109, true)), .mov (.t 17)⟩,
    ⟨some 111, (some (109, true)), .len (.t 110)⟩,
    ⟨some 112, (some (109, true)), .bin .eql (.t 111) (.c (.g (.int .i64 1)))⟩,
    ⟨some 113, none, .pick (.t 109) (.t 112) (.c (.g (.bool false)))⟩,
    ⟨some 114, none, .mov (.t 113)⟩,
    ⟨some 115, (some (114, true)), .mov (.t 17)⟩,
    ⟨some 116, (some (114, true)), .iaddr 1 (.t 115) (.c (.g (.int .i64 0)))⟩,
    ⟨some 117, (some (114, true)), .load false 1 (.t 116)⟩,
    ⟨some 118, (some (114, true)), .bin .eql (.t 117) (.c (.g (.int .i64 7)))⟩,
    ⟨some 119, none, .pick (.t 114) (.t 118) (.c (.g (.bool false)))⟩,
    ⟨some 120, none, .mov (.t 119)⟩,
    ⟨some 121, (some (120, true)), .load true 2 (.t 1)⟩,
    ⟨some 122, (some (120, true)), .call (.c (.g (.fn 40))) [(.t 121), (.c (.g (.int .i64 7)))]⟩,
    ⟨some 123, (some (120, true)), .bin .eql (.t 122) (.c (.g (.int .i64 1)))⟩,
    ⟨some 124, none, .pick (.t 120) (.t 123) (.c (.g (.bool false)))⟩,
    ⟨some 125, none, .mov (.t 124)⟩,
    ⟨some 126, (some (125, true)), .load true 2 (.t 1)⟩,
    ⟨some 127, (some (125, true)), .call (.c (.g (.fn 40))) [(.t 126), (.c (.g (.int .i64 8)))]⟩,
    ⟨some 128, (some (125, true)), .bin .eql (.t 127) (.c (.g (.int .i64 (-1))))⟩,
    ⟨some 129, none, .pick (.t 125) (.t 128) (.c (.g (.bool false)))⟩,
    ⟨some 130, none, .mov (.t 129)⟩,
    ⟨some 131, (some (130, true)), .load true 2 (.t 1)⟩,
    ⟨some 132, (some (130, true)), .call (.c (.g (.fn 39))) [(.t 131)]⟩,
    ⟨some 133, none, .pick (.t 130) (.t 132) (.c (.g (.bool false)))⟩,
    ⟨some 134, none, .mov (.t 133)⟩,
    ⟨some 135, (some (134, true)), .build [.g (.int .i64 0), .g (.int .i64 0)] [(0, 1, (.c (.g (.int .i64 1))))]⟩,
    ⟨some 136, (some (134, true)), .build [.g (.int .i64 0), .g (.int .i64 0)] [(0, 1, (.c (.g (.int .i64 1))))]⟩,
    ⟨some 137, (some (134, true)), .bslice 2 2 [.int .i64 0, .int .i64 0] [(0, 2, (.t 135)), (2, 2, (.t 136))]⟩,
    ⟨some 138, (some (134, true)), .build [.g (.nsl), .g (.nsl)] [(1, 1, (.t 137))]⟩,
    ⟨some 139, (some (134, true)), .call (.c (.g (.fn 39))) [(.t 138)]⟩,
    ⟨some 140, (some (134, true)), .un .not (.t 139)⟩,
    ⟨some 141, none, .pick (.t 134) (.t 140) (.c (.g (.bool false)))⟩,
    ⟨some 0, none, .mov (.t 141)⟩]) <|
 .ret⟩
def h32 : List (List Nat) := [[], [1], [1, 2], [1], [1, 2], [1, 2, 20], [1, 2], [1, 2], [1, 2, 3, 4], [1, 2, 3, 32], [1, 2, 3], [0], [1, 2], [1, 2], [1, 5, 6, 7], [1, 5, 6, 7, 9, 10], [1, 5, 6, 7, 9, 10, 12, 13], [1, 5, 6, 7, 9, 10, 12, 13, 15], [1, 5, 6, 7, 9, 10, 12, 13, 15, 16], [1, 5, 6, 7, 9, 10, 12, 13, 15, 16, 17], [0]]
theorem c32 : cFunc Try.prog 32 false h32 = some F32 := by kernel_rfl

def F33 : IFunc := ⟨3, 46, [.cell 6 true 9, .tmp 7, .tmp 8], false,
 .seq (.reg [1, 2, 3, 6] [⟨some 3, none, .box (.t 0)⟩,
    ⟨some 6, none, .alloc [.z (.int .i64 0), .z (.int .i64 0), .z (.int .i64 0), .z (.int .i64 0), .z (.int .i64 0), .z (.int .i64 0), .z (.bool false), .s 6, .s 8]⟩,
    ⟨some 7, none, .mov (.c (.g (.bool false)))⟩,
    ⟨some 8, none, .mov (.c (.g (.int .i64 0)))⟩]) <|
 .seq (.reg [1, 2, 3, 6, 9] [⟨some 12, none, .mov (.t 1)⟩,
    ⟨some 13, none, .mov (.t 2)⟩,
    ⟨some 14, none, .build [.g (.int .i64 0), .g (.int .i64 0)] [(0, 1, (.t 12)), (1, 1, (.t 13))]⟩,
    ⟨some 9, none, .alloc [.z (.int .i64 0), .z (.int .i64 0)]⟩,
    ⟨none, none, .store 2 (.t 9) (.t 14)⟩]) <|
 .seq (.seq (.reg [1, 2, 3, 6, 10] [⟨some 15, none, .faddr 0 (.t 3)⟩,
     ⟨some 16, none, .load false 1 (.t 15)⟩,
     ⟨some 17, none, .mkfn 60 [(.t 9)]⟩,
     ⟨some 18, none, .call (.c (.g (.fn 59))) [(.t 16), (.t 17)]⟩,
     ⟨some 10, none, .mov (.t 18)⟩]) <|
  .seq (.reg [1, 2, 3, 6, 10, 20] [⟨some 19, none, .mov (.t 10)⟩,
     ⟨some 20, none, .bin .geq (.t 19) (.c (.g (.int .i64 0)))⟩]) <|
  .cond [1, 2, 3, 6] (.t 20)
   (.seq (.reg [6, 7, 8] [⟨some 21, none, .faddr 0 (.t 3)⟩,
       ⟨some 22, none, .load false 1 (.t 21)⟩,
       ⟨some 23, none, .mov (.t 10)⟩,
       ⟨some 24, none, .iaddr 11 (.t 22) (.t 23)⟩,
       ⟨some 25, none, .faddr 2 (.t 24)⟩,
       ⟨some 26, none, .load true 9 (.t 25)⟩,
       ⟨none, none, .store 9 (.t 6) (.t 26)⟩,
       ⟨some 7, none, .mov (.c (.g (.bool true)))⟩,
       ⟨some 8, none, .mov (.c (.g (.int .i64 0)))⟩]) <|
    .ret)
   (.skip)) <|
 .seq (.seq (.reg [1, 3, 6, 31] [⟨some 27, none, .mov (.t 2)⟩,
     ⟨some 28, none, .load true 2 (.t 3)⟩,
     ⟨some 29, none, .mov (.t 1)⟩,
     ⟨some 30, none, .call (.c (.g (.fn 40))) [(.t 28), (.t 29)]⟩,
     ⟨some 31, none, .bin .leq (.t 27) (.t 30)⟩]) <|
  .cond [1, 3, 6] (.t 31)
   (.seq (.reg [6, 7, 8] [⟨some 32, none, .build [.g (.int .i64 0), .g (.int .i64 0), .g (.int .i64 0), .g (.int .i64 0), .g (.int .i64 0), .g (.int .i64 0), .g (.bool false), .g (.nsl), .g (.nsl)] []⟩,
       ⟨none, none, .store 9 (.t 6) (.t 32)⟩,
       ⟨some 7, none, .mov (.c (.g (.bool false)))⟩,
       ⟨some 8, none, .mov (.c (.g (.int .i64 7)))⟩]) <|
    .ret)
   (.skip)) <|
 .seq (.seq (.reg [1, 6, 11] [⟨some 33, none, .load true 2 (.t 3)⟩,
     ⟨some 34, none, .call (.c (.g (.fn 42))) [(.t 33)]⟩,
     ⟨some 11, none, .mov (.t 34)⟩]) <|
  .seq (.reg [6, 43] [⟨some 35, none, .mov (.t 11)⟩,
     ⟨some 36, none, .len (.t 35)⟩,
     ⟨some 37, none, .bin .geq (.t 36) (.c (.g (.int .i64 8)))⟩,
     ⟨some 38, none, .mov (.t 37)⟩,
     ⟨some 39, (some (38, true)), .mov (.t 11)⟩,
     ⟨some 40, (some (38, true)), .mov (.t 1)⟩,
     ⟨some 41, (some (38, true)), .call (.c (.g (.fn 62))) [(.t 39), (.t 40)]⟩,
     ⟨some 42, (some (38, true)), .un .not (.t 41)⟩,
     ⟨some 43, none, .pick (.t 38) (.t 42) (.c (.g (.bool false)))⟩]) <|
  .cond [6] (.t 43)
   (.seq (.reg [6, 7, 8] [⟨some 44, none, .build [.g (.int .i64 0), .g (.int .i64 0), .g (.int .i64 0), .g (.int .i64 0), .g (.int .i64 0), .g (.int .i64 0), .g (.bool false), .g (.nsl), .g (.nsl)] []⟩,
       ⟨none, none, .store 9 (.t 6) (.t 44)⟩,
       ⟨some 7, none, .mov (.c (.g (.bool false)))⟩,
       ⟨some 8, none, .mov (.c (.g (.int .i64 4)))⟩]) <|
    .ret)
   (.skip)) <|
 .seq (.reg [6, 7, 8] [⟨some 45, none, .build [.g (.int .i64 0), .g (.int .i64 0), .g (.int .i64 0), .g (.int .i64 0), .g (.int .i64 0), .g (.int .i64 0), .g (.bool false), .g (.nsl), .g (.nsl)] []⟩,
    ⟨none, none, .store 9 (.t 6) (.t 45)⟩,
    ⟨some 7, none, .mov (.c (.g (.bool false)))⟩,
    ⟨some 8, none, .mov (.c (.g (.int .i64 0)))⟩]) <|
 .ret⟩
def h33 : List (List Nat) := [[1, 2, 3, 6], [1, 2, 3, 6, 9], [1, 2, 3, 6, 10], [1, 2, 3, 6, 10, 20], [1, 2, 3, 6], [6, 7, 8], [1, 3, 6, 31], [1, 3, 6], [6, 7, 8], [1, 6, 11], [6, 43], [6], [6, 7, 8], [6, 7, 8]]
theorem c33 : cFunc Try.prog 33 false h33 = some F33 := by kernel_rfl

def L34_0 : IC :=
 .seq (.seq (.reg [1, 2, 3, 6, 9, 15] [⟨some 11, none, .mov (.t 9)⟩,
     ⟨some 12, none, .faddr 0 (.t 3)⟩,
     ⟨some 13, none, .load false 1 (.t 12)⟩,
     ⟨some 14, none, .len (.t 13)⟩,
     ⟨some 15, none, .bin .lss (.t 11) (.t 14)⟩]) <|
  .cond [1, 2, 3, 6, 9] (.t 15)
   (.skip)
   (.exit 0)) <|
 .seq (.block [1, 2, 3, 6, 9] 1 <|
  .seq (.reg [1, 2, 3, 6, 9, 35] [⟨some 18, none, .faddr 0 (.t 3)⟩,
     ⟨some 19, none, .load false 1 (.t 18)⟩,
     ⟨some 20, none, .mov (.t 9)⟩,
     ⟨some 21, none, .iaddr 11 (.t 19) (.t 20)⟩,
     ⟨some 22, none, .faddr 0 (.t 21)⟩,
     ⟨some 23, none, .load false 1 (.t 22)⟩,
     ⟨some 24, none, .mov (.t 1)⟩,
     ⟨some 25, none, .bin .eql (.t 23) (.t 24)⟩,
     ⟨some 26, none, .mov (.t 25)⟩,
     ⟨some 27, (some (26, true)), .faddr 0 (.t 3)⟩,
     ⟨some 28, (some (26, true)), .load false 1 (.t 27)⟩,
     ⟨some 29, (some (26, true)), .mov (.t 9)⟩,
     ⟨some 30, (some (26, true)), .iaddr 11 (.t 28) (.t 29)⟩,
     ⟨some 31, (some (26, true)), .faddr 1 (.t 30)⟩,
     ⟨some 32, (some (26, true)), .load false 1 (.t 31)⟩,
     ⟨some 33, (some (26, true)), .mov (.t 2)⟩,
     ⟨some 34, (some (26, true)), .bin .eql (.t 32) (.t 33)⟩,
     ⟨some 35, none, .pick (.t 26) (.t 34) (.c (.g (.bool false)))⟩]) <|
  .cond [1, 2, 3, 6, 9] (.t 35)
   (.seq (.reg [6, 7, 8] [⟨some 36, none, .faddr 0 (.t 3)⟩,
       ⟨some 37, none, .load false 1 (.t 36)⟩,
       ⟨some 38, none, .mov (.t 9)⟩,
       ⟨some 39, none, .iaddr 11 (.t 37) (.t 38)⟩,
       ⟨some 40, none, .faddr 2 (.t 39)⟩,
       ⟨some 41, none, .load true 9 (.t 40)⟩,
       ⟨none, none, .store 9 (.t 6) (.t 41)⟩,
       ⟨some 7, none, .mov (.c (.g (.bool true)))⟩,
       ⟨some 8, none, .mov (.c (.g (.int .i64 0)))⟩]) <|
    .ret)
   (.skip)) <|
 .reg [1, 2, 3, 6, 9] [⟨some 16, none, .mov (.t 9)⟩,
   ⟨some 17, none, .bin .add (.t 16) (.c (.g (.int .i64 1)))⟩,
   ⟨some 9, none, .mov (.t 17)⟩]
def F34 : IFunc := ⟨3, 64, [.cell 6 true 9, .tmp 7, .tmp 8], false,
 .seq (.reg [1, 2, 3, 6] [⟨some 3, none, .box (.t 0)⟩,
    ⟨some 6, none, .alloc [.z (.int .i64 0), .z (.int .i64 0), .z (.int .i64 0), .z (.int .i64 0), .z (.int .i64 0), .z (.int .i64 0), .z (.bool false), .s 6, .s 8]⟩,
    ⟨some 7, none, .mov (.c (.g (.bool false)))⟩,
    ⟨some 8, none, .mov (.c (.g (.int .i64 0)))⟩]) <|
 .seq (.seq (.reg [1, 2, 3, 6, 9] [⟨some 9, none, .mov (.c (.g (.int .i64 0)))⟩]) <|
  .block [1, 2, 3, 6] 0 <|
  .loop [1, 2, 3, 6, 9] [] L34_0) <|
 .seq (.seq (.reg [1, 3, 6, 46] [⟨some 42, none, .mov (.t 2)⟩,
     ⟨some 43, none, .load true 2 (.t 3)⟩,
     ⟨some 44, none, .mov (.t 1)⟩,
     ⟨some 45, none, .call (.c (.g (.fn 63))) [(.t 43), (.t 44)]⟩,
     ⟨some 46, none, .bin .leq (.t 42) (.t 45)⟩]) <|
  .cond [1, 3, 6] (.t 46)
   (.seq (.reg [6, 7, 8] [⟨some 47, none, .build [.g (.int .i64 0), .g (.int .i64 0), .g (.int .i64 0), .g (.int .i64 0), .g (.int .i64 0), .g (.int .i64 0), .g (.bool false), .g (.nsl), .g (.nsl)] []⟩,
       ⟨none, none, .store 9 (.t 6) (.t 47)⟩,
       ⟨some 7, none, .mov (.c (.g (.bool false)))⟩,
       ⟨some 8, none, .mov (.c (.g (.int .i64 7)))⟩]) <|
    .ret)
   (.skip)) <|
 .seq (.reg [1, 6, 10] [⟨some 48, none, .load true 2 (.t 3)⟩,
    ⟨some 49, none, .call (.c (.g (.fn 64))) [(.t 48)]⟩,
    ⟨some 10, none, .mov (.t 49)⟩]) <|
 .seq (.seq (.reg [6, 61] [⟨some 50, none, .mov (.t 10)⟩,
     ⟨some 51, none, .len (.t 50)⟩,
     ⟨some 52, none, .bin .geq (.t 51) (.c (.g (.int .i64 8)))⟩,
     ⟨some 53, none, .mov (.t 52)⟩,
     ⟨some 54, (some (53, true)), .mov (.t 10)⟩,
     ⟨some 55, (some (53, true)), .mov (.t 1)⟩,
     ⟨some 56, (some (53, true)), .call (.c (.g (.fn 65))) [(.t 54), (.t 55), (.c (.g (.bool true)))]⟩,
     ⟨some 57, (some (53, true)), .len (.t 56)⟩,
     ⟨some 58, (some (53, true)), .mov (.t 10)⟩,
     ⟨some 59, (some (53, true)), .len (.t 58)⟩,
     ⟨some 60, (some (53, true)), .bin .gtr (.t 57) (.t 59)⟩,
     ⟨some 61, none, .pick (.t 53) (.t 60) (.c (.g (.bool false)))⟩]) <|
  .cond [6] (.t 61)
   (.seq (.reg [6, 7, 8] [⟨some 62, none, .build [.g (.int .i64 0), .g (.int .i64 0), .g (.int .i64 0), .g (.int .i64 0), .g (.int .i64 0), .g (.int .i64 0), .g (.bool false), .g (.nsl), .g (.nsl)] []⟩,
       ⟨none, none, .store 9 (.t 6) (.t 62)⟩,
       ⟨some 7, none, .mov (.c (.g (.bool false)))⟩,
       ⟨some 8, none, .mov (.c (.g (.int .i64 4)))⟩]) <|
    .ret)
   (.skip)) <|
 .seq (.reg [6, 7, 8] [⟨some 63, none, .build [.g (.int .i64 0), .g (.int .i64 0), .g (.int .i64 0), .g (.int .i64 0), .g (.int .i64 0), .g (.int .i64 0), .g (.bool false), .g (.nsl), .g (.nsl)] []⟩,
    ⟨none, none, .store 9 (.t 6) (.t 63)⟩,
    ⟨some 7, none, .mov (.c (.g (.bool false)))⟩,
    ⟨some 8, none, .mov (.c (.g (.int .i64 0)))⟩]) <|
 .ret⟩
def h34 : List (List Nat) := [[1, 2, 3, 6], [1, 2, 3, 6, 9], [1, 2, 3, 6], [1, 2, 3, 6, 9], [1, 2, 3, 6, 9, 15], [1, 2, 3, 6, 9], [1, 2, 3, 6, 9], [1, 2, 3, 6, 9, 35], [1, 2, 3, 6, 9], [6, 7, 8], [1, 2, 3, 6, 9], [1, 3, 6, 46], [1, 3, 6], [6, 7, 8], [1, 6, 10], [6, 61], [6], [6, 7, 8], [6, 7, 8]]
theorem c34 : cFunc Try.prog 34 false h34 = some F34 := by kernel_rfl

def F35 : IFunc := ⟨4, 68, [.cell 8 true 2, .tmp 9], false,
 .seq (.reg [2, 4, 5, 7, 8] [⟨some 4, none, .box (.t 0)⟩,
    ⟨some 5, none, .box (.t 1)⟩,
    ⟨some 7, none, .box (.t 3)⟩,
    ⟨some 8, none, .alloc [.s 11, .s 2]⟩,
    ⟨some 9, none, .mov (.c (.g (.int .i64 0)))⟩]) <|
 .seq (.reg [2, 4, 5, 7, 8, 11, 12] [⟨some 16, none, .load true 2 (.t 4)⟩,
    ⟨some 17, none, .load false 1 (.t 5)⟩,
    ⟨some 18, none, .mov (.t 2)⟩,
    ⟨some 19, none, .call (.c (.g (.fn 33))) [(.t 16), (.t 17), (.t 18)]⟩,
    ⟨some 15, none, .mov (.t 19)⟩,
    ⟨some 20, none, .ext 0 (.t 15)⟩,
    ⟨some 21, none, .ext 1 (.t 15)⟩,
    ⟨some 22, none, .ext 2 (.t 15)⟩,
    ⟨some 10, none, .alloc [.z (.int .i64 0), .z (.int .i64 0), .z (.int .i64 0), .z (.int .i64 0), .z (.int .i64 0), .z (.int .i64 0), .z (.bool false), .s 6, .s 8]⟩,
    ⟨none, none, .store 9 (.t 10) (.t 20)⟩,
    ⟨some 11, none, .mov (.t 21)⟩,
    ⟨some 12, none, .mov (.t 22)⟩]) <|
 .seq (.block [2, 4, 5, 7, 8] 0 <|
  .seq (.reg [2, 4, 5, 7, 8, 12, 23] [⟨some 24, none, .mov (.t 11)⟩,
     ⟨some 23, none, .mov (.t 24)⟩]) <|
  .cond [2, 4, 5, 7, 8] (.t 23)
   (.seq (.reg [8, 9] [⟨some 25, none, .load true 2 (.t 4)⟩,
       ⟨none, none, .store 2 (.t 8) (.t 25)⟩,
       ⟨some 9, none, .mov (.c (.g (.int .i64 11)))⟩]) <|
    .ret)
   (.seq (.reg [2, 4, 5, 7, 8, 12, 26] [⟨some 27, none, .mov (.t 12)⟩,
       ⟨some 28, none, .bin .neq (.t 27) (.c (.g (.int .i64 0)))⟩,
       ⟨some 26, none, .mov (.t 28)⟩]) <|
    .cond [2, 4, 5, 7, 8] (.t 26)
     (.seq (.reg [8, 9] [⟨some 29, none, .load true 2 (.t 4)⟩,
         ⟨some 30, none, .mov (.t 12)⟩,
         ⟨none, none, .store 2 (.t 8) (.t 29)⟩,
         ⟨some 9, none, .mov (.t 30)⟩]) <|
      .ret)
     (.skip))) <|
 .seq (.reg [4, 5, 8] [⟨some 31, none, .faddr 0 (.t 4)⟩,
    ⟨some 32, none, .load false 1 (.t 31)⟩,
    ⟨some 33, none, .load false 1 (.t 5)⟩,
    ⟨some 34, none, .mov (.t 2)⟩,
    ⟨some 35, none, .load true 9 (.t 7)⟩,
    ⟨some 36, none, .build [.g (.int .i64 0), .g (.int .i64 0), .g (.int .i64 0), .g (.int .i64 0), .g (.int .i64 0), .g (.int .i64 0), .g (.int .i64 0), .g (.int .i64 0), .g (.bool false), .g (.nsl), .g (.nsl)] [(0, 1, (.t 33)), (1, 1, (.t 34)), (2, 9, (.t 35))]⟩,
    ⟨some 37, none, .bslice 11 1 [.int .i64 0, .int .i64 0, .int .i64 0, .int .i64 0, .int .i64 0, .int .i64 0, .int .i64 0, .int .i64 0, .bool false, .nsl, .nsl] [(0, 11, (.t 36))]⟩,
    ⟨some 38, none, .bslice 1 2 [.nsl] [(0, 1, (.t 32)), (1, 1, (.t 37))]⟩,
    ⟨some 39, none, .call (.c (.g (.fn 66))) [(.t 38)]⟩,
    ⟨some 40, none, .faddr 0 (.t 4)⟩,
    ⟨none, none, .store 1 (.t 40) (.t 39)⟩]) <|
 .seq (.reg [4, 5, 8, 13] [⟨some 41, none, .load true 2 (.t 4)⟩,
    ⟨some 42, none, .load false 1 (.t 5)⟩,
    ⟨some 43, none, .call (.c (.g (.fn 41))) [(.t 41), (.t 42)]⟩,
    ⟨some 13, none, .alloc [.s 1]⟩,
    ⟨none, none, .store 1 (.t 13) (.t 43)⟩]) <|
 .seq (.seq (.reg [4, 5, 8, 13, 46] [⟨some 44, none, .load false 1 (.t 13)⟩,
     ⟨some 45, none, .len (.t 44)⟩,
     ⟨some 46, none, .bin .leq (.t 45) (.c (.g (.int .i64 4)))⟩]) <|
  .cond [4, 5, 8, 13] (.t 46)
   (.seq (.reg [8, 9] [⟨some 47, none, .load true 2 (.t 4)⟩,
       ⟨none, none, .store 2 (.t 8) (.t 47)⟩,
       ⟨some 9, none, .mov (.c (.g (.int .i64 0)))⟩]) <|
    .ret)
   (.skip)) <|
 .seq (.reg [4, 5, 8, 13, 14] [⟨some 48, none, .faddr 0 (.t 4)⟩,
    ⟨some 49, none, .load false 1 (.t 48)⟩,
    ⟨some 50, none, .mkfn 67 [(.t 5), (.t 13)]⟩,
    ⟨some 51, none, .call (.c (.g (.fn 59))) [(.t 49), (.t 50)]⟩,
    ⟨some 14, none, .mov (.t 51)⟩]) <|
 .seq (.reg [4, 5, 8, 13] [⟨some 52, none, .faddr 0 (.t 4)⟩,
    ⟨some 53, none, .load false 1 (.t 52)⟩,
    ⟨some 54, none, .mov (.t 14)⟩,
    ⟨some 55, none, .mov (.t 14)⟩,
    ⟨some 56, none, .bin .add (.t 55) (.c (.g (.int .i64 1)))⟩,
    ⟨some 57, none, .call (.c (.g (.fn 68))) [(.t 53), (.t 54), (.t 56)]⟩,
    ⟨some 58, none, .faddr 0 (.t 4)⟩,
    ⟨none, none, .store 1 (.t 58) (.t 57)⟩]) <|
 .seq (.drw [4, 8] 0 <|
  .take ⟨some 59, none, .faddr 1 (.t 4)⟩ <|
  .take ⟨some 60, none, .load false 1 (.t 59)⟩ <|
  .take ⟨some 61, none, .load false 1 (.t 5)⟩ <|
  .take ⟨some 62, none, .load false 1 (.t 13)⟩ <|
  .take ⟨some 63, none, .iaddr 1 (.t 62) (.c (.g (.int .i64 0)))⟩ <|
  .take ⟨some 64, none, .load false 1 (.t 63)⟩ <|
  .one ⟨some 65, none, .call (.c (.g (.fn 69))) [(.t 60), (.t 61), (.t 64)]⟩ <|
  .free <|
  .take ⟨some 66, none, .faddr 1 (.t 4)⟩ <|
  .one ⟨none, none, .store 1 (.t 66) (.t 65)⟩ <|
  .leaf) <|
 .seq (.reg [8, 9] [⟨some 67, none, .load true 2 (.t 4)⟩,
    ⟨none, none, .store 2 (.t 8) (.t 67)⟩,
    ⟨some 9, none, .mov (.c (.g (.int .i64 0)))⟩]) <|
 .ret⟩
def h35 : List (List Nat) := [[2, 4, 5, 7, 8], [2, 4, 5, 7, 8, 11, 12], [2, 4, 5, 7, 8], [2, 4, 5, 7, 8, 12, 23], [2, 4, 5, 7, 8], [8, 9], [2, 4, 5, 7, 8, 12, 26], [2, 4, 5, 7, 8], [8, 9], [4, 5, 8], [4, 5, 8, 13], [4, 5, 8, 13, 46], [4, 5, 8, 13], [8, 9], [4, 5, 8, 13, 14], [4, 5, 8, 13], [4, 8], [], [8, 9]]
theorem c35 : cFunc Try.prog 35 false h35 = some F35 := by kernel_rfl

end
end Go.Proofs.Ytibnbcljmfigfaa
