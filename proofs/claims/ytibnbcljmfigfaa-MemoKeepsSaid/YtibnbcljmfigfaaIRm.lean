/- The compiled functions of the seat, part IRm. No conditions. -/
import Derived.Test.YtibnbcljmfigfaaAMJ4
import Derived.Test.YtibnbcljmfigfaaProg
import Derived.KernelRfl
namespace Go.Proofs.Ytibnbcljmfigfaa
open Go Go.AM Go.Proofs
noncomputable section
def F9 : IFunc := ⟨3, 99, [.tmp 6], false,
 .seq (.reg [3, 4, 5] [⟨some 3, none, .box (.t 0)⟩,
    ⟨some 4, none, .box (.t 1)⟩,
    ⟨some 5, none, .box (.t 2)⟩,
    ⟨some 6, none, .mov (.c (.g (.bool false)))⟩]) <|
 .seq (.seq (.reg [3, 4, 5, 31] [⟨some 17, none, .load true 2 (.t 3)⟩,
     ⟨some 18, none, .call (.c (.g (.fn 30))) [(.t 17)]⟩,
     ⟨some 19, none, .un .not (.t 18)⟩,
     ⟨some 20, none, .mov (.t 19)⟩,
     ⟨some 21, (some (20, false)), .faddr 7 (.t 5)⟩,
     ⟨some 22, (some (20, false)), .load false 1 (.t 21)⟩,
     ⟨some 23, (some (20, false)), .call (.c (.g (.fn 19))) [(.t 22), (.c (.g (.int .i64 40)))]⟩,
     ⟨some 24, (some (20, false)), .un .not (.t 23)⟩,
     ⟨some 25, none, .pick (.t 20) (.c (.g (.bool true))) (.t 24)⟩,
     ⟨some 26, none, .mov (.t 25)⟩,
     ⟨some 27, (some (26, false)), .faddr 8 (.t 5)⟩,
     ⟨some 28, (some (26, false)), .load false 1 (.t 27)⟩,
     ⟨some 29, (some (26, false)), .call (.c (.g (.fn 31))) [(.t 28), (.c (.g (.int .i64 40)))]⟩,
     ⟨some 30, (some (26, false)), .un .not (.t 29)⟩,
     ⟨some 31, none, .pick (.t 26) (.c (.g (.bool true))) (.t 30)⟩]) <|
  .cond [3, 4, 5] (.t 31)
   (.seq (.reg [6] [⟨some 32, none, .call (.c (.g (.fn 32))) []⟩,
       ⟨some 6, none, .mov (.t 32)⟩]) <|
    .ret)
   (.skip)) <|
 .seq (.reg [3, 4, 5, 7, 8, 9] [⟨some 34, none, .load true 2 (.t 3)⟩,
    ⟨some 35, none, .iaddrA 2 1 (.t 4) (.c (.g (.int .i64 0)))⟩,
    ⟨some 36, none, .load false 1 (.t 35)⟩,
    ⟨some 37, none, .iaddrA 2 1 (.t 4) (.c (.g (.int .i64 1)))⟩,
    ⟨some 38, none, .load false 1 (.t 37)⟩,
    ⟨some 39, none, .call (.c (.g (.fn 33))) [(.t 34), (.t 36), (.t 38)]⟩,
    ⟨some 33, none, .mov (.t 39)⟩,
    ⟨some 40, none, .ext 0 (.t 33)⟩,
    ⟨some 41, none, .ext 1 (.t 33)⟩,
    ⟨some 42, none, .ext 2 (.t 33)⟩,
    ⟨some 7, none, .alloc [.z (.int .i64 0), .z (.int .i64 0), .z (.int .i64 0), .z (.int .i64 0), .z (.int .i64 0), .z (.int .i64 0), .z (.bool false), .s 6, .s 8]⟩,
    ⟨none, none, .store 9 (.t 7) (.t 40)⟩,
    ⟨some 8, none, .mov (.t 41)⟩,
    ⟨some 9, none, .mov (.t 42)⟩]) <|
 .seq (.reg [3, 4, 5, 7, 8, 9, 10, 11, 12] [⟨some 44, none, .load true 2 (.t 3)⟩,
    ⟨some 45, none, .iaddrA 2 1 (.t 4) (.c (.g (.int .i64 0)))⟩,
    ⟨some 46, none, .load false 1 (.t 45)⟩,
    ⟨some 47, none, .iaddrA 2 1 (.t 4) (.c (.g (.int .i64 1)))⟩,
    ⟨some 48, none, .load false 1 (.t 47)⟩,
    ⟨some 49, none, .call (.c (.g (.fn 34))) [(.t 44), (.t 46), (.t 48)]⟩,
    ⟨some 43, none, .mov (.t 49)⟩,
    ⟨some 50, none, .ext 0 (.t 43)⟩,
    ⟨some 51, none, .ext 1 (.t 43)⟩,
    ⟨some 52, none, .ext 2 (.t 43)⟩,
    ⟨some 10, none, .alloc [.z (.int .i64 0), .z (.int .i64 0), .z (.int .i64 0), .z (.int .i64 0), .z (.int .i64 0), .z (.int .i64 0), .z (.bool false), .s 6, .s 8]⟩,
    ⟨none, none, .store 9 (.t 10) (.t 50)⟩,
    ⟨some 11, none, .mov (.t 51)⟩,
    ⟨some 12, none, .mov (.t 52)⟩]) <|
 .seq (.reg [3, 4, 5, 7, 8, 9, 10, 11, 12, 13, 14] [⟨some 54, none, .load true 2 (.t 3)⟩,
    ⟨some 55, none, .iaddrA 2 1 (.t 4) (.c (.g (.int .i64 0)))⟩,
    ⟨some 56, none, .load false 1 (.t 55)⟩,
    ⟨some 57, none, .iaddrA 2 1 (.t 4) (.c (.g (.int .i64 1)))⟩,
    ⟨some 58, none, .load false 1 (.t 57)⟩,
    ⟨some 59, none, .load true 9 (.t 5)⟩,
    ⟨some 60, none, .call (.c (.g (.fn 35))) [(.t 54), (.t 56), (.t 58), (.t 59)]⟩,
    ⟨some 53, none, .mov (.t 60)⟩,
    ⟨some 61, none, .ext 0 (.t 53)⟩,
    ⟨some 62, none, .ext 1 (.t 53)⟩,
    ⟨some 13, none, .alloc [.s 11, .s 2]⟩,
    ⟨none, none, .store 2 (.t 13) (.t 61)⟩,
    ⟨some 14, none, .mov (.t 62)⟩]) <|
 .seq (.reg [7, 8, 9, 10, 11, 12, 13, 14, 15, 16] [⟨some 64, none, .load true 2 (.t 3)⟩,
    ⟨some 65, none, .iaddrA 2 1 (.t 4) (.c (.g (.int .i64 0)))⟩,
    ⟨some 66, none, .load false 1 (.t 65)⟩,
    ⟨some 67, none, .iaddrA 2 1 (.t 4) (.c (.g (.int .i64 1)))⟩,
    ⟨some 68, none, .load false 1 (.t 67)⟩,
    ⟨some 69, none, .load true 9 (.t 5)⟩,
    ⟨some 70, none, .call (.c (.g (.fn 36))) [(.t 64), (.t 66), (.t 68), (.t 69)]⟩,
    ⟨some 63, none, .mov (.t 70)⟩,
    ⟨some 71, none, .ext 0 (.t 63)⟩,
    ⟨some 72, none, .ext 1 (.t 63)⟩,
    ⟨some 15, none, .alloc [.s 11, .s 2]⟩,
    ⟨none, none, .store 2 (.t 15) (.t 71)⟩,
    ⟨some 16, none, .mov (.t 72)⟩]) <|
 .seq (.reg [6] [⟨some 73, none, .load true 9 (.t 7)⟩,
    ⟨some 74, none, .load true 9 (.t 10)⟩,
    ⟨some 75, none, .call (.c (.g (.fn 37))) [(.t 73), (.t 74)]⟩,
    ⟨some 76, none, .mov (.t 75)⟩,
    ⟨some 77, (some (76, true)), .mov (.t 8)⟩,
    ⟨some 78, (some (76, true)), .mov (.t 11)⟩,
    ⟨some 79, (some (76, true)), .eqs false false [.b] (.t 77) (.t 78)⟩,
    ⟨some 80, none, .pick (.t 76) (.t 79) (.c (.g (.bool false)))⟩,
    ⟨some 81, none, .mov (.t 80)⟩,
    ⟨some 82, (some (81, true)), .mov (.t 9)⟩,
    ⟨some 83, (some (81, true)), .mov (.t 12)⟩,
    ⟨some 84, (some (81, true)), .bin .eql (.t 82) (.t 83)⟩,
    ⟨some 85, none, .pick (.t 81) (.t 84) (.c (.g (.bool false)))⟩,
    ⟨some 86, none, .mov (.t 85)⟩,
    ⟨some 87, (some (86, true)), .load true 2 (.t 13)⟩,
    ⟨some 88, (some (86, true)), .load true 2 (.t 15)⟩,
    ⟨some 89, (some (86, true)), .call (.c (.g (.fn 38))) [(.t 87), (.t 88)]⟩,
    ⟨some 90, none, .pick (.t 86) (.t 89) (.c (.g (.bool false)))⟩,
    ⟨some 91, none, .mov (.t 90)⟩,
    ⟨some 92, (some (91, true)), .mov (.t 14)⟩,
    ⟨some 93, (some (91, true)), .mov (.t 16)⟩,
    ⟨some 94, (some (91, true)), .bin .eql (.t 92) (.t 93)⟩,
    ⟨some 95, none, .pick (.t 91) (.t 94) (.c (.g (.bool false)))⟩,
    ⟨some 96, none, .mov (.t 95)⟩,
    ⟨some 97, (some (96, true)), .call (.c (.g (.fn 32))) []⟩,
    ⟨some 98, none, .pick (.t 96) (.t 97) (.c (.g (.bool false)))⟩,
    ⟨some 6, none, .mov (.t 98)⟩]) <|
 .ret⟩
def h9 : List (List Nat) := [[3, 4, 5], [3, 4, 5, 31], [3, 4, 5], [6], [3, 4, 5, 7, 8, 9], [3, 4, 5, 7, 8, 9, 10, 11, 12], [3, 4, 5, 7, 8, 9, 10, 11, 12, 13, 14], [7, 8, 9, 10, 11, 12, 13, 14, 15, 16], [6]]
theorem c9 : cFunc Try.prog 9 false h9 = some F9 := by kernel_rfl

def F10 : IFunc := ⟨3, 175, [.tmp 6], false,
 .seq (.reg [3, 4, 5] [⟨some 3, none, .box (.t 0)⟩,
    ⟨some 4, none, .box (.t 1)⟩,
    ⟨some 5, none, .box (.t 2)⟩,
    ⟨some 6, none, .mov (.c (.g (.bool false)))⟩]) <|
 .seq (.seq (.reg [3, 4, 5, 29] [⟨some 22, none, .load true 2 (.t 3)⟩,
     ⟨some 23, none, .call (.c (.g (.fn 30))) [(.t 22)]⟩,
     ⟨some 24, none, .un .not (.t 23)⟩,
     ⟨some 25, none, .mov (.t 24)⟩,
     ⟨some 26, (some (25, false)), .load true 2 (.t 3)⟩,
     ⟨some 27, (some (25, false)), .call (.c (.g (.fn 39))) [(.t 26)]⟩,
     ⟨some 28, (some (25, false)), .un .not (.t 27)⟩,
     ⟨some 29, none, .pick (.t 25) (.c (.g (.bool true))) (.t 28)⟩]) <|
  .cond [3, 4, 5] (.t 29)
   (.seq (.reg [6] [⟨some 30, none, .call (.c (.g (.fn 32))) []⟩,
       ⟨some 6, none, .mov (.t 30)⟩]) <|
    .ret)
   (.skip)) <|
 .seq (.reg [3, 4, 5, 7] [⟨some 31, none, .build [.g (.int .i64 0), .g (.int .i64 0), .g (.int .i64 0), .g (.int .i64 0), .g (.int .i64 0), .g (.int .i64 0), .g (.bool false), .g (.nsl), .g (.nsl)] [(3, 1, (.c (.g (.int .i64 77)))), (6, 1, (.c (.g (.bool true))))]⟩,
    ⟨some 7, none, .alloc [.z (.int .i64 0), .z (.int .i64 0), .z (.int .i64 0), .z (.int .i64 0), .z (.int .i64 0), .z (.int .i64 0), .z (.bool false), .s 6, .s 8]⟩,
    ⟨none, none, .store 9 (.t 7) (.t 31)⟩]) <|
 .seq (.reg [3, 4, 5, 7, 8, 9] [⟨some 33, none, .load true 2 (.t 3)⟩,
    ⟨some 34, none, .iaddrA 2 1 (.t 4) (.c (.g (.int .i64 0)))⟩,
    ⟨some 35, none, .load false 1 (.t 34)⟩,
    ⟨some 36, none, .iaddrA 2 1 (.t 4) (.c (.g (.int .i64 1)))⟩,
    ⟨some 37, none, .load false 1 (.t 36)⟩,
    ⟨some 38, none, .load true 9 (.t 7)⟩,
    ⟨some 39, none, .call (.c (.g (.fn 35))) [(.t 33), (.t 35), (.t 37), (.t 38)]⟩,
    ⟨some 32, none, .mov (.t 39)⟩,
    ⟨some 40, none, .ext 0 (.t 32)⟩,
    ⟨some 41, none, .ext 1 (.t 32)⟩,
    ⟨some 8, none, .alloc [.s 11, .s 2]⟩,
    ⟨none, none, .store 2 (.t 8) (.t 40)⟩,
    ⟨some 9, none, .mov (.t 41)⟩]) <|
 .seq (.seq (.reg [3, 4, 5, 7, 8, 9, 43] [⟨some 42, none, .mov (.t 9)⟩,
     ⟨some 43, none, .bin .neq (.t 42) (.c (.g (.int .i64 0)))⟩]) <|
  .cond [3, 4, 5, 7, 8] (.t 43)
   (.seq (.reg [3, 8, 9, 11, 12] [⟨some 45, none, .load true 2 (.t 3)⟩,
       ⟨some 46, none, .iaddrA 2 1 (.t 4) (.c (.g (.int .i64 0)))⟩,
       ⟨some 47, none, .load false 1 (.t 46)⟩,
       ⟨some 48, none, .iaddrA 2 1 (.t 4) (.c (.g (.int .i64 1)))⟩,
       ⟨some 49, none, .load false 1 (.t 48)⟩,
       ⟨some 50, none, .call (.c (.g (.fn 33))) [(.t 45), (.t 47), (.t 49)]⟩,
       ⟨some 44, none, .mov (.t 50)⟩,
       ⟨some 51, none, .ext 0 (.t 44)⟩,
       ⟨some 52, none, .ext 1 (.t 44)⟩,
       ⟨some 53, none, .ext 2 (.t 44)⟩,
       ⟨some 10, none, .alloc [.z (.int .i64 0), .z (.int .i64 0), .z (.int .i64 0), .z (.int .i64 0), .z (.int .i64 0), .z (.int .i64 0), .z (.bool false), .s 6, .s 8]⟩,
       ⟨none, none, .store 9 (.t 10) (.t 51)⟩,
       ⟨some 11, none, .mov (.t 52)⟩,
       ⟨some 12, none, .mov (.t 53)⟩]) <|
    .seq (.reg [6] [⟨some 54, none, .load true 2 (.t 8)⟩,
       ⟨some 55, none, .load true 2 (.t 3)⟩,
       ⟨some 56, none, .call (.c (.g (.fn 38))) [(.t 54), (.t 55)]⟩,
       ⟨some 57, none, .mov (.t 56)⟩,
       ⟨some 58, (some (57, true)), .mov (.t 11)⟩,
       ⟨some 59, (some (57, true)), .mov (.t 58)⟩,
       ⟨some 60, (some (59, true)), .mov (.t 9)⟩,
       ⟨some 61, (some (59, true)), .bin .eql (.t 60) (.c (.g (.int .i64 11)))⟩,
       ⟨some 62, (some (57, true)), .pick (.t 59) (.t 61) (.c (.g (.bool false)))⟩,
       ⟨some 63, (some (57, true)), .mov (.t 62)⟩,
       ⟨some 64, (some (63, false)), .mov (.t 11)⟩,
       ⟨some 65, (some (63, false)), .un .not (.t 64)⟩,
       ⟨some 66, (some (63, false)), .mov (.t 65)⟩,
       ⟨some 67, (some (66, true)), .mov (.t 9)⟩,
       ⟨some 68, (some (66, true)), .mov (.t 12)⟩,
       ⟨some 69, (some (66, true)), .bin .eql (.t 67) (.t 68)⟩,
       ⟨some 70, (some (63, false)), .pick (.t 66) (.t 69) (.c (.g (.bool false)))⟩,
       ⟨some 71, (some (57, true)), .pick (.t 63) (.c (.g (.bool true))) (.t 70)⟩,
       ⟨some 72, none, .pick (.t 57) (.t 71) (.c (.g (.bool false)))⟩,
       ⟨some 73, none, .mov (.t 72)⟩,
       ⟨some 74, (some (73, true)), .call (.c (.g (.fn 32))) []⟩,
       ⟨some 75, none, .pick (.t 73) (.t 74) (.c (.g (.bool false)))⟩,
       ⟨some 6, none, .mov (.t 75)⟩]) <|
    .ret)
   (.skip)) <|
 .seq (.reg [3, 4, 5, 7, 8, 13, 14, 15] [⟨some 77, none, .load true 2 (.t 8)⟩,
    ⟨some 78, none, .iaddrA 2 1 (.t 4) (.c (.g (.int .i64 0)))⟩,
    ⟨some 79, none, .load false 1 (.t 78)⟩,
    ⟨some 80, none, .iaddrA 2 1 (.t 4) (.c (.g (.int .i64 1)))⟩,
    ⟨some 81, none, .load false 1 (.t 80)⟩,
    ⟨some 82, none, .call (.c (.g (.fn 33))) [(.t 77), (.t 79), (.t 81)]⟩,
    ⟨some 76, none, .mov (.t 82)⟩,
    ⟨some 83, none, .ext 0 (.t 76)⟩,
    ⟨some 84, none, .ext 1 (.t 76)⟩,
    ⟨some 85, none, .ext 2 (.t 76)⟩,
    ⟨some 13, none, .alloc [.z (.int .i64 0), .z (.int .i64 0), .z (.int .i64 0), .z (.int .i64 0), .z (.int .i64 0), .z (.int .i64 0), .z (.bool false), .s 6, .s 8]⟩,
    ⟨none, none, .store 9 (.t 13) (.t 83)⟩,
    ⟨some 14, none, .mov (.t 84)⟩,
    ⟨some 15, none, .mov (.t 85)⟩]) <|
 .seq (.seq (.reg [3, 4, 5, 8, 105] [⟨some 86, none, .load true 2 (.t 8)⟩,
     ⟨some 87, none, .call (.c (.g (.fn 39))) [(.t 86)]⟩,
     ⟨some 88, none, .un .not (.t 87)⟩,
     ⟨some 89, none, .mov (.t 88)⟩,
     ⟨some 90, (some (89, false)), .mov (.t 14)⟩,
     ⟨some 91, (some (89, false)), .mov (.t 90)⟩,
     ⟨some 92, (some (91, true)), .load true 9 (.t 13)⟩,
     ⟨some 93, (some (91, true)), .load true 9 (.t 7)⟩,
     ⟨some 94, (some (91, true)), .call (.c (.g (.fn 37))) [(.t 92), (.t 93)]⟩,
     ⟨some 95, (some (91, true)), .un .not (.t 94)⟩,
     ⟨some 96, (some (89, false)), .pick (.t 91) (.t 95) (.c (.g (.bool false)))⟩,
     ⟨some 97, none, .pick (.t 89) (.c (.g (.bool true))) (.t 96)⟩,
     ⟨some 98, none, .mov (.t 97)⟩,
     ⟨some 99, (some (98, false)), .mov (.t 14)⟩,
     ⟨some 100, (some (98, false)), .un .not (.t 99)⟩,
     ⟨some 101, (some (98, false)), .mov (.t 100)⟩,
     ⟨some 102, (some (101, true)), .mov (.t 15)⟩,
     ⟨some 103, (some (101, true)), .bin .neq (.t 102) (.c (.g (.int .i64 7)))⟩,
     ⟨some 104, (some (98, false)), .pick (.t 101) (.t 103) (.c (.g (.bool false)))⟩,
     ⟨some 105, none, .pick (.t 98) (.c (.g (.bool true))) (.t 104)⟩]) <|
  .cond [3, 4, 5, 8] (.t 105)
   (.seq (.reg [6] [⟨some 6, none, .mov (.c (.g (.bool false)))⟩]) <|
    .ret)
   (.skip)) <|
 .seq (.reg [4, 5, 8, 16, 17, 18] [⟨some 107, none, .load true 2 (.t 3)⟩,
    ⟨some 108, none, .iaddrA 2 1 (.t 5) (.c (.g (.int .i64 0)))⟩,
    ⟨some 109, none, .load false 1 (.t 108)⟩,
    ⟨some 110, none, .iaddrA 2 1 (.t 5) (.c (.g (.int .i64 1)))⟩,
    ⟨some 111, none, .load false 1 (.t 110)⟩,
    ⟨some 112, none, .call (.c (.g (.fn 33))) [(.t 107), (.t 109), (.t 111)]⟩,
    ⟨some 106, none, .mov (.t 112)⟩,
    ⟨some 113, none, .ext 0 (.t 106)⟩,
    ⟨some 114, none, .ext 1 (.t 106)⟩,
    ⟨some 115, none, .ext 2 (.t 106)⟩,
    ⟨some 16, none, .alloc [.z (.int .i64 0), .z (.int .i64 0), .z (.int .i64 0), .z (.int .i64 0), .z (.int .i64 0), .z (.int .i64 0), .z (.bool false), .s 6, .s 8]⟩,
    ⟨none, none, .store 9 (.t 16) (.t 113)⟩,
    ⟨some 17, none, .mov (.t 114)⟩,
    ⟨some 18, none, .mov (.t 115)⟩]) <|
 .seq (.reg [4, 5, 16, 17, 18, 19, 20, 21] [⟨some 117, none, .load true 2 (.t 8)⟩,
    ⟨some 118, none, .iaddrA 2 1 (.t 5) (.c (.g (.int .i64 0)))⟩,
    ⟨some 119, none, .load false 1 (.t 118)⟩,
    ⟨some 120, none, .iaddrA 2 1 (.t 5) (.c (.g (.int .i64 1)))⟩,
    ⟨some 121, none, .load false 1 (.t 120)⟩,
    ⟨some 122, none, .call (.c (.g (.fn 33))) [(.t 117), (.t 119), (.t 121)]⟩,
    ⟨some 116, none, .mov (.t 122)⟩,
    ⟨some 123, none, .ext 0 (.t 116)⟩,
    ⟨some 124, none, .ext 1 (.t 116)⟩,
    ⟨some 125, none, .ext 2 (.t 116)⟩,
    ⟨some 19, none, .alloc [.z (.int .i64 0), .z (.int .i64 0), .z (.int .i64 0), .z (.int .i64 0), .z (.int .i64 0), .z (.int .i64 0), .z (.bool false), .s 6, .s 8]⟩,
    ⟨none, none, .store 9 (.t 19) (.t 123)⟩,
    ⟨some 20, none, .mov (.t 124)⟩,
    ⟨some 21, none, .mov (.t 125)⟩]) <|
 .seq (.seq (.reg [4, 5, 16, 17, 18, 19, 20, 21, 130] [⟨some 126, none, .iaddrA 2 1 (.t 5) (.c (.g (.int .i64 0)))⟩,
     ⟨some 127, none, .load false 1 (.t 126)⟩,
     ⟨some 128, none, .iaddrA 2 1 (.t 4) (.c (.g (.int .i64 0)))⟩,
     ⟨some 129, none, .load false 1 (.t 128)⟩,
     ⟨some 130, none, .bin .eql (.t 127) (.t 129)⟩]) <|
  .cond [16, 17, 18, 19, 20, 21] (.t 130)
   (.seq (.reg [6] [⟨some 131, none, .mov (.t 20)⟩,
       ⟨some 132, none, .un .not (.t 131)⟩,
       ⟨some 133, none, .mov (.t 132)⟩,
       ⟨some 134, (some (133, false)), .iaddrA 2 1 (.t 5) (.c (.g (.int .i64 1)))⟩,
       ⟨some 135, (some (133, false)), .load false 1 (.t 134)⟩,
       ⟨some 136, (some (133, false)), .iaddrA 2 1 (.t 4) (.c (.g (.int .i64 1)))⟩,
       ⟨some 137, (some (133, false)), .load false 1 (.t 136)⟩,
       ⟨some 138, (some (133, false)), .bin .eql (.t 135) (.t 137)⟩,
       ⟨some 139, none, .pick (.t 133) (.c (.g (.bool true))) (.t 138)⟩,
       ⟨some 140, none, .mov (.t 139)⟩,
       ⟨some 141, (some (140, false)), .mov (.t 17)⟩,
       ⟨some 142, (some (140, false)), .mov (.t 141)⟩,
       ⟨some 143, (some (142, true)), .load true 9 (.t 16)⟩,
       ⟨some 144, (some (142, true)), .load true 9 (.t 19)⟩,
       ⟨some 145, (some (142, true)), .call (.c (.g (.fn 37))) [(.t 143), (.t 144)]⟩,
       ⟨some 146, (some (140, false)), .pick (.t 142) (.t 145) (.c (.g (.bool false)))⟩,
       ⟨some 147, none, .pick (.t 140) (.c (.g (.bool true))) (.t 146)⟩,
       ⟨some 148, none, .mov (.t 147)⟩,
       ⟨some 149, (some (148, true)), .call (.c (.g (.fn 32))) []⟩,
       ⟨some 150, none, .pick (.t 148) (.t 149) (.c (.g (.bool false)))⟩,
       ⟨some 6, none, .mov (.t 150)⟩]) <|
    .ret)
   (.skip)) <|
 .seq (.reg [6] [⟨some 151, none, .load true 9 (.t 16)⟩,
    ⟨some 152, none, .load true 9 (.t 19)⟩,
    ⟨some 153, none, .call (.c (.g (.fn 37))) [(.t 151), (.t 152)]⟩,
    ⟨some 154, none, .mov (.t 153)⟩,
    ⟨some 155, (some (154, true)), .mov (.t 17)⟩,
    ⟨some 156, (some (154, true)), .mov (.t 20)⟩,
    ⟨some 157, (some (154, true)), .eqs false false [.b] (.t 155) (.t 156)⟩,
    ⟨some 158, none, .pick (.t 154) (.t 157) (.c (.g (.bool false)))⟩,
    ⟨some 159, none, .mov (.t 158)⟩,
    ⟨some 160, (some (159, true)), .mov (.t 18)⟩,
    ⟨some 161, (some (159, true)), .mov (.t 21)⟩,
    ⟨some 162, (some (159, true)), .bin .eql (.t 160) (.t 161)⟩,
    ⟨some 163, (some (159, true)), .mov (.t 162)⟩,
    ⟨some 164, (some (163, false)), .mov (.t 18)⟩,
    ⟨some 165, (some (163, false)), .bin .eql (.t 164) (.c (.g (.int .i64 0)))⟩,
    ⟨some 166, (some (163, false)), .mov (.t 165)⟩,
    ⟨some 167, (some (166, true)), .mov (.t 21)⟩,
    ⟨some 168, (some (166, true)), .bin .eql (.t 167) (.c (.g (.int .i64 4)))⟩,
    ⟨some 169, (some (163, false)), .pick (.t 166) (.t 168) (.c (.g (.bool false)))⟩,
    ⟨some 170, (some (159, true)), .pick (.t 163) (.c (.g (.bool true))) (.t 169)⟩,
    ⟨some 171, none, .pick (.t 159) (.t 170) (.c (.g (.bool false)))⟩,
    ⟨some 172, none, .mov (.t 171)⟩,
    ⟨some 173, (some (172, true)), .call (.c (.g (.fn 32))) []⟩,
    ⟨some 174, none, .pick (.t 172) (.t 173) (.c (.g (.bool false)))⟩,
    ⟨some 6, none, .mov (.t 174)⟩]) <|
 .ret⟩
def h10 : List (List Nat) := [[3, 4, 5], [3, 4, 5, 29], [3, 4, 5], [6], [3, 4, 5, 7], [3, 4, 5, 7, 8, 9], [3, 4, 5, 7, 8, 9, 43], [3, 4, 5, 7, 8], [3, 8, 9, 11, 12], [6], [3, 4, 5, 7, 8, 13, 14, 15], [3, 4, 5, 8, 105], [3, 4, 5, 8], [6], [4, 5, 8, 16, 17, 18], [4, 5, 16, 17, 18, 19, 20, 21], [4, 5, 16, 17, 18, 19, 20, 21, 130], [16, 17, 18, 19, 20, 21], [6], [6]]
theorem c10 : cFunc Try.prog 10 false h10 = some F10 := by kernel_rfl

def L11_0 : IC :=
 .seq (.seq (.reg [2, 4, 7, 8, 10, 47] [⟨some 44, none, .mov (.t 10)⟩,
     ⟨some 45, none, .mov (.t 2)⟩,
     ⟨some 46, none, .len (.t 45)⟩,
     ⟨some 47, none, .bin .lss (.t 44) (.t 46)⟩]) <|
  .cond [2, 4, 7, 8, 10] (.t 47)
   (.skip)
   (.exit 0)) <|
 .seq (.block [2, 4, 7, 8, 10] 1 <|
  .seq (.drw [2, 4, 7, 8, 10, 11] 1 <|
   .take ⟨some 51, none, .load true 2 (.t 8)⟩ <|
   .take ⟨some 52, none, .mov (.t 2)⟩ <|
   .take ⟨some 53, none, .mov (.t 10)⟩ <|
   .take ⟨some 54, none, .iaddr 2 (.t 52) (.t 53)⟩ <|
   .take ⟨some 55, none, .iaddrA 2 1 (.t 54) (.c (.g (.int .i64 0)))⟩ <|
   .take ⟨some 56, none, .load false 1 (.t 55)⟩ <|
   .take ⟨some 57, none, .mov (.t 2)⟩ <|
   .take ⟨some 58, none, .mov (.t 10)⟩ <|
   .take ⟨some 59, none, .iaddr 2 (.t 57) (.t 58)⟩ <|
   .take ⟨some 60, none, .iaddrA 2 1 (.t 59) (.c (.g (.int .i64 1)))⟩ <|
   .take ⟨some 61, none, .load false 1 (.t 60)⟩ <|
   .take ⟨some 62, none, .mov (.t 10)⟩ <|
   .take ⟨some 63, none, .build [.g (.int .i64 0), .g (.int .i64 0), .g (.int .i64 0), .g (.int .i64 0), .g (.int .i64 0), .g (.int .i64 0), .g (.bool false), .g (.nsl), .g (.nsl)] [(3, 1, (.t 62))]⟩ <|
   .alt ⟨some 64, none, .call (.c (.g (.fn 35))) [(.t 51), (.t 56), (.t 61), (.t 63)]⟩
   (.take ⟨some 50, none, .mov (.t 64)⟩ <|
    .take ⟨some 65, none, .ext 0 (.t 50)⟩ <|
    .take ⟨some 66, none, .ext 1 (.t 50)⟩ <|
    .one ⟨some 11, none, .allocAt 0 [.s 11, .s 2]⟩ <|
    .free <|
    .one ⟨none, none, .store 2 (.t 11) (.t 65)⟩ <|
    .take ⟨some 12, none, .mov (.t 66)⟩ <|
    .leaf)
   (.one ⟨some 11, none, .allocAt 0 [.s 11, .s 2]⟩ <|
    .one ⟨some 64, none, .call (.c (.g (.fn 35))) [(.t 51), (.t 56), (.t 61), (.t 63)]⟩ <|
    .take ⟨some 50, none, .mov (.t 64)⟩ <|
    .take ⟨some 65, none, .ext 0 (.t 50)⟩ <|
    .take ⟨some 66, none, .ext 1 (.t 50)⟩ <|
    .free <|
    .one ⟨none, none, .store 2 (.t 11) (.t 65)⟩ <|
    .take ⟨some 12, none, .mov (.t 66)⟩ <|
    .leaf)) <|
  .seq (.reg [2, 4, 7, 8, 10] [⟨some 67, none, .load true 2 (.t 11)⟩,
     ⟨none, none, .store 2 (.t 8) (.t 67)⟩]) <|
  .seq (.reg [2, 4, 7, 8, 10, 13, 14, 15] [⟨some 69, none, .load true 2 (.t 8)⟩,
     ⟨some 70, none, .iaddrA 2 1 (.t 4) (.c (.g (.int .i64 0)))⟩,
     ⟨some 71, none, .load false 1 (.t 70)⟩,
     ⟨some 72, none, .iaddrA 2 1 (.t 4) (.c (.g (.int .i64 1)))⟩,
     ⟨some 73, none, .load false 1 (.t 72)⟩,
     ⟨some 74, none, .call (.c (.g (.fn 33))) [(.t 69), (.t 71), (.t 73)]⟩,
     ⟨some 68, none, .mov (.t 74)⟩,
     ⟨some 75, none, .ext 0 (.t 68)⟩,
     ⟨some 76, none, .ext 1 (.t 68)⟩,
     ⟨some 77, none, .ext 2 (.t 68)⟩,
     ⟨some 13, none, .alloc [.z (.int .i64 0), .z (.int .i64 0), .z (.int .i64 0), .z (.int .i64 0), .z (.int .i64 0), .z (.int .i64 0), .z (.bool false), .s 6, .s 8]⟩,
     ⟨none, none, .store 9 (.t 13) (.t 75)⟩,
     ⟨some 14, none, .mov (.t 76)⟩,
     ⟨some 15, none, .mov (.t 77)⟩]) <|
  .seq (.reg [2, 4, 7, 8, 10, 92] [⟨some 78, none, .mov (.t 14)⟩,
     ⟨some 79, none, .mov (.t 78)⟩,
     ⟨some 80, (some (79, true)), .load true 9 (.t 13)⟩,
     ⟨some 81, (some (79, true)), .load true 9 (.t 7)⟩,
     ⟨some 82, (some (79, true)), .call (.c (.g (.fn 37))) [(.t 80), (.t 81)]⟩,
     ⟨some 83, (some (79, true)), .un .not (.t 82)⟩,
     ⟨some 84, none, .pick (.t 79) (.t 83) (.c (.g (.bool false)))⟩,
     ⟨some 85, none, .mov (.t 84)⟩,
     ⟨some 86, (some (85, false)), .mov (.t 14)⟩,
     ⟨some 87, (some (85, false)), .un .not (.t 86)⟩,
     ⟨some 88, (some (85, false)), .mov (.t 87)⟩,
     ⟨some 89, (some (88, true)), .mov (.t 15)⟩,
     ⟨some 90, (some (88, true)), .bin .neq (.t 89) (.c (.g (.int .i64 7)))⟩,
     ⟨some 91, (some (85, false)), .pick (.t 88) (.t 90) (.c (.g (.bool false)))⟩,
     ⟨some 92, none, .pick (.t 85) (.c (.g (.bool true))) (.t 91)⟩]) <|
  .cond [2, 4, 7, 8, 10] (.t 92)
   (.seq (.reg [6] [⟨some 6, none, .mov (.c (.g (.bool false)))⟩]) <|
    .ret)
   (.skip)) <|
 .reg [2, 4, 7, 8, 10] [⟨some 48, none, .mov (.t 10)⟩,
   ⟨some 49, none, .bin .add (.t 48) (.c (.g (.int .i64 1)))⟩,
   ⟨some 10, none, .mov (.t 49)⟩]
def F11 : IFunc := ⟨3, 94, [.tmp 6], false,
 .seq (.reg [2, 3, 4] [⟨some 3, none, .box (.t 0)⟩,
    ⟨some 4, none, .box (.t 1)⟩,
    ⟨some 6, none, .mov (.c (.g (.bool false)))⟩]) <|
 .seq (.seq (.reg [2, 3, 4, 28] [⟨some 16, none, .load true 2 (.t 3)⟩,
     ⟨some 17, none, .call (.c (.g (.fn 30))) [(.t 16)]⟩,
     ⟨some 18, none, .un .not (.t 17)⟩,
     ⟨some 19, none, .mov (.t 18)⟩,
     ⟨some 20, (some (19, false)), .load true 2 (.t 3)⟩,
     ⟨some 21, (some (19, false)), .call (.c (.g (.fn 39))) [(.t 20)]⟩,
     ⟨some 22, (some (19, false)), .un .not (.t 21)⟩,
     ⟨some 23, none, .pick (.t 19) (.c (.g (.bool true))) (.t 22)⟩,
     ⟨some 24, none, .mov (.t 23)⟩,
     ⟨some 25, (some (24, false)), .mov (.t 2)⟩,
     ⟨some 26, (some (24, false)), .len (.t 25)⟩,
     ⟨some 27, (some (24, false)), .bin .gtr (.t 26) (.c (.g (.int .i64 30)))⟩,
     ⟨some 28, none, .pick (.t 24) (.c (.g (.bool true))) (.t 27)⟩]) <|
  .cond [2, 3, 4] (.t 28)
   (.seq (.reg [6] [⟨some 29, none, .call (.c (.g (.fn 32))) []⟩,
       ⟨some 6, none, .mov (.t 29)⟩]) <|
    .ret)
   (.skip)) <|
 .seq (.reg [2, 3, 4, 7] [⟨some 30, none, .build [.g (.int .i64 0), .g (.int .i64 0), .g (.int .i64 0), .g (.int .i64 0), .g (.int .i64 0), .g (.int .i64 0), .g (.bool false), .g (.nsl), .g (.nsl)] [(3, 1, (.c (.g (.int .i64 77)))), (6, 1, (.c (.g (.bool true))))]⟩,
    ⟨some 7, none, .alloc [.z (.int .i64 0), .z (.int .i64 0), .z (.int .i64 0), .z (.int .i64 0), .z (.int .i64 0), .z (.int .i64 0), .z (.bool false), .s 6, .s 8]⟩,
    ⟨none, none, .store 9 (.t 7) (.t 30)⟩]) <|
 .seq (.reg [2, 4, 7, 8, 9] [⟨some 32, none, .load true 2 (.t 3)⟩,
    ⟨some 33, none, .iaddrA 2 1 (.t 4) (.c (.g (.int .i64 0)))⟩,
    ⟨some 34, none, .load false 1 (.t 33)⟩,
    ⟨some 35, none, .iaddrA 2 1 (.t 4) (.c (.g (.int .i64 1)))⟩,
    ⟨some 36, none, .load false 1 (.t 35)⟩,
    ⟨some 37, none, .load true 9 (.t 7)⟩,
    ⟨some 38, none, .call (.c (.g (.fn 35))) [(.t 32), (.t 34), (.t 36), (.t 37)]⟩,
    ⟨some 31, none, .mov (.t 38)⟩,
    ⟨some 39, none, .ext 0 (.t 31)⟩,
    ⟨some 40, none, .ext 1 (.t 31)⟩,
    ⟨some 8, none, .alloc [.s 11, .s 2]⟩,
    ⟨none, none, .store 2 (.t 8) (.t 39)⟩,
    ⟨some 9, none, .mov (.t 40)⟩]) <|
 .seq (.seq (.reg [2, 4, 7, 8, 42] [⟨some 41, none, .mov (.t 9)⟩,
     ⟨some 42, none, .bin .neq (.t 41) (.c (.g (.int .i64 0)))⟩]) <|
  .cond [2, 4, 7, 8] (.t 42)
   (.seq (.reg [6] [⟨some 43, none, .call (.c (.g (.fn 32))) []⟩,
       ⟨some 6, none, .mov (.t 43)⟩]) <|
    .ret)
   (.skip)) <|
 .seq (.seq (.reg [2, 4, 7, 8, 10] [⟨some 10, none, .mov (.c (.g (.int .i64 0)))⟩]) <|
  .block [] 0 <|
  .loop [2, 4, 7, 8, 10] [] L11_0) <|
 .seq (.reg [6] [⟨some 93, none, .call (.c (.g (.fn 32))) []⟩,
    ⟨some 6, none, .mov (.t 93)⟩]) <|
 .ret⟩
def h11 : List (List Nat) := [[2, 3, 4], [2, 3, 4, 28], [2, 3, 4], [6], [2, 3, 4, 7], [2, 4, 7, 8, 9], [2, 4, 7, 8, 42], [2, 4, 7, 8], [6], [2, 4, 7, 8, 10], [], [2, 4, 7, 8, 10], [2, 4, 7, 8, 10, 47], [2, 4, 7, 8, 10], [2, 4, 7, 8, 10], [2, 4, 7, 8, 10, 11], [], [2, 4, 7, 8, 10], [2, 4, 7, 8, 10, 13, 14, 15], [2, 4, 7, 8, 10, 92], [2, 4, 7, 8, 10], [6], [2, 4, 7, 8, 10], [6]]
theorem c11 : cFunc Try.prog 11 false h11 = some F11 := by kernel_rfl

def L12_0 : IC :=
 .seq (.seq (.reg [0, 1, 5, 6, 7, 24] [⟨some 21, none, .mov (.t 7)⟩,
     ⟨some 22, none, .mov (.t 0)⟩,
     ⟨some 23, none, .len (.t 22)⟩,
     ⟨some 24, none, .bin .lss (.t 21) (.t 23)⟩]) <|
  .cond [0, 1, 5, 6, 7] (.t 24)
   (.skip)
   (.exit 0)) <|
 .seq (.block [0, 1, 5, 6, 7] 1 <|
  .seq (.seq (.reg [0, 1, 5, 7, 39] [⟨some 27, none, .mov (.t 0)⟩,
      ⟨some 28, none, .mov (.t 7)⟩,
      ⟨some 29, none, .iaddr 1 (.t 27) (.t 28)⟩,
      ⟨some 30, none, .load false 1 (.t 29)⟩,
      ⟨some 31, none, .mov (.t 6)⟩,
      ⟨some 32, none, .bin .leq (.t 30) (.t 31)⟩,
      ⟨some 33, none, .mov (.t 32)⟩,
      ⟨some 34, (some (33, false)), .mov (.t 0)⟩,
      ⟨some 35, (some (33, false)), .mov (.t 7)⟩,
      ⟨some 36, (some (33, false)), .iaddr 1 (.t 34) (.t 35)⟩,
      ⟨some 37, (some (33, false)), .load false 1 (.t 36)⟩,
      ⟨some 38, (some (33, false)), .bin .gtr (.t 37) (.c (.g (.int .i64 1099511627775)))⟩,
      ⟨some 39, none, .pick (.t 33) (.c (.g (.bool true))) (.t 38)⟩]) <|
   .cond [0, 1, 5, 7] (.t 39)
    (.seq (.reg [4] [⟨some 40, none, .call (.c (.g (.fn 32))) []⟩,
        ⟨some 4, none, .mov (.t 40)⟩]) <|
     .ret)
    (.skip)) <|
  .seq (.reg [0, 1, 5, 6, 7] [⟨some 41, none, .mov (.t 0)⟩,
     ⟨some 42, none, .mov (.t 7)⟩,
     ⟨some 43, none, .iaddr 1 (.t 41) (.t 42)⟩,
     ⟨some 44, none, .load false 1 (.t 43)⟩,
     ⟨some 6, none, .mov (.t 44)⟩]) <|
  .seq (.drw [0, 1, 5, 6, 7, 8, 9] 1 <|
   .take ⟨some 46, none, .load true 2 (.t 5)⟩ <|
   .take ⟨some 47, none, .mov (.t 0)⟩ <|
   .take ⟨some 48, none, .mov (.t 7)⟩ <|
   .take ⟨some 49, none, .iaddr 1 (.t 47) (.t 48)⟩ <|
   .take ⟨some 50, none, .load false 1 (.t 49)⟩ <|
   .take ⟨some 51, none, .mov (.t 7)⟩ <|
   .take ⟨some 52, none, .bin .add (.t 51) (.c (.g (.int .i64 1)))⟩ <|
   .take ⟨some 53, none, .build [.g (.int .i64 0), .g (.int .i64 0), .g (.int .i64 0), .g (.int .i64 0), .g (.int .i64 0), .g (.int .i64 0), .g (.bool false), .g (.nsl), .g (.nsl)] [(3, 1, (.t 52))]⟩ <|
   .alt ⟨some 54, none, .call (.c (.g (.fn 35))) [(.t 46), (.c (.g (.int .i64 3))), (.t 50), (.t 53)]⟩
   (.take ⟨some 45, none, .mov (.t 54)⟩ <|
    .take ⟨some 55, none, .ext 0 (.t 45)⟩ <|
    .take ⟨some 56, none, .ext 1 (.t 45)⟩ <|
    .one ⟨some 8, none, .allocAt 0 [.s 11, .s 2]⟩ <|
    .free <|
    .one ⟨none, none, .store 2 (.t 8) (.t 55)⟩ <|
    .take ⟨some 9, none, .mov (.t 56)⟩ <|
    .leaf)
   (.one ⟨some 8, none, .allocAt 0 [.s 11, .s 2]⟩ <|
    .one ⟨some 54, none, .call (.c (.g (.fn 35))) [(.t 46), (.c (.g (.int .i64 3))), (.t 50), (.t 53)]⟩ <|
    .take ⟨some 45, none, .mov (.t 54)⟩ <|
    .take ⟨some 55, none, .ext 0 (.t 45)⟩ <|
    .take ⟨some 56, none, .ext 1 (.t 45)⟩ <|
    .free <|
    .one ⟨none, none, .store 2 (.t 8) (.t 55)⟩ <|
    .take ⟨some 9, none, .mov (.t 56)⟩ <|
    .leaf)) <|
  .seq (.seq (.reg [0, 1, 5, 6, 7, 8, 58] [⟨some 57, none, .mov (.t 9)⟩,
      ⟨some 58, none, .bin .neq (.t 57) (.c (.g (.int .i64 0)))⟩]) <|
   .cond [0, 1, 5, 6, 7, 8] (.t 58)
    (.seq (.reg [4] [⟨some 4, none, .mov (.c (.g (.bool false)))⟩]) <|
     .ret)
    (.skip)) <|
  .seq (.drw [0, 1, 5, 6, 7, 10, 11] 1 <|
   .take ⟨some 60, none, .load true 2 (.t 8)⟩ <|
   .take ⟨some 61, none, .mov (.t 1)⟩ <|
   .take ⟨some 62, none, .bin .and (.t 61) (.c (.g (.int .i64 3)))⟩ <|
   .take ⟨some 63, none, .bin .add (.c (.g (.int .i64 4))) (.t 62)⟩ <|
   .take ⟨some 64, none, .mov (.t 0)⟩ <|
   .take ⟨some 65, none, .mov (.t 7)⟩ <|
   .take ⟨some 66, none, .iaddr 1 (.t 64) (.t 65)⟩ <|
   .take ⟨some 67, none, .load false 1 (.t 66)⟩ <|
   .take ⟨some 68, none, .build [.g (.int .i64 0), .g (.int .i64 0), .g (.int .i64 0), .g (.int .i64 0), .g (.int .i64 0), .g (.int .i64 0), .g (.bool false), .g (.nsl), .g (.nsl)] []⟩ <|
   .alt ⟨some 69, none, .call (.c (.g (.fn 35))) [(.t 60), (.t 63), (.t 67), (.t 68)]⟩
   (.take ⟨some 59, none, .mov (.t 69)⟩ <|
    .take ⟨some 70, none, .ext 0 (.t 59)⟩ <|
    .take ⟨some 71, none, .ext 1 (.t 59)⟩ <|
    .one ⟨some 10, none, .allocAt 0 [.s 11, .s 2]⟩ <|
    .free <|
    .one ⟨none, none, .store 2 (.t 10) (.t 70)⟩ <|
    .take ⟨some 11, none, .mov (.t 71)⟩ <|
    .leaf)
   (.one ⟨some 10, none, .allocAt 0 [.s 11, .s 2]⟩ <|
    .one ⟨some 69, none, .call (.c (.g (.fn 35))) [(.t 60), (.t 63), (.t 67), (.t 68)]⟩ <|
    .take ⟨some 59, none, .mov (.t 69)⟩ <|
    .take ⟨some 70, none, .ext 0 (.t 59)⟩ <|
    .take ⟨some 71, none, .ext 1 (.t 59)⟩ <|
    .free <|
    .one ⟨none, none, .store 2 (.t 10) (.t 70)⟩ <|
    .take ⟨some 11, none, .mov (.t 71)⟩ <|
    .leaf)) <|
  .seq (.seq (.reg [0, 1, 5, 6, 7, 10, 73] [⟨some 72, none, .mov (.t 11)⟩,
      ⟨some 73, none, .bin .neq (.t 72) (.c (.g (.int .i64 0)))⟩]) <|
   .cond [0, 1, 5, 6, 7, 10] (.t 73)
    (.seq (.reg [4] [⟨some 4, none, .mov (.c (.g (.bool false)))⟩]) <|
     .ret)
    (.skip)) <|
  .reg [0, 1, 5, 6, 7] [⟨some 74, none, .load true 2 (.t 10)⟩,
    ⟨none, none, .store 2 (.t 5) (.t 74)⟩]) <|
 .reg [0, 1, 5, 6, 7] [⟨some 25, none, .mov (.t 7)⟩,
   ⟨some 26, none, .bin .add (.t 25) (.c (.g (.int .i64 1)))⟩,
   ⟨some 7, none, .mov (.t 26)⟩]
def L12_1 : IC :=
 .seq (.seq (.reg [0, 5, 12, 78] [⟨some 75, none, .mov (.t 12)⟩,
     ⟨some 76, none, .mov (.t 0)⟩,
     ⟨some 77, none, .len (.t 76)⟩,
     ⟨some 78, none, .bin .lss (.t 75) (.t 77)⟩]) <|
  .cond [0, 5, 12] (.t 78)
   (.skip)
   (.exit 2)) <|
 .seq (.block [0, 5, 12] 3 <|
  .seq (.drw [0, 5, 12, 13, 14, 15] 1 <|
   .take ⟨some 82, none, .load true 2 (.t 5)⟩ <|
   .take ⟨some 83, none, .mov (.t 0)⟩ <|
   .take ⟨some 84, none, .mov (.t 12)⟩ <|
   .take ⟨some 85, none, .iaddr 1 (.t 83) (.t 84)⟩ <|
   .take ⟨some 86, none, .load false 1 (.t 85)⟩ <|
   .alt ⟨some 87, none, .call (.c (.g (.fn 33))) [(.t 82), (.c (.g (.int .i64 3))), (.t 86)]⟩
   (.take ⟨some 81, none, .mov (.t 87)⟩ <|
    .take ⟨some 88, none, .ext 0 (.t 81)⟩ <|
    .take ⟨some 89, none, .ext 1 (.t 81)⟩ <|
    .take ⟨some 90, none, .ext 2 (.t 81)⟩ <|
    .one ⟨some 13, none, .allocAt 0 [.z (.int .i64 0), .z (.int .i64 0), .z (.int .i64 0), .z (.int .i64 0), .z (.int .i64 0), .z (.int .i64 0), .z (.bool false), .s 6, .s 8]⟩ <|
    .free <|
    .one ⟨none, none, .store 9 (.t 13) (.t 88)⟩ <|
    .take ⟨some 14, none, .mov (.t 89)⟩ <|
    .take ⟨some 15, none, .mov (.t 90)⟩ <|
    .leaf)
   (.one ⟨some 13, none, .allocAt 0 [.z (.int .i64 0), .z (.int .i64 0), .z (.int .i64 0), .z (.int .i64 0), .z (.int .i64 0), .z (.int .i64 0), .z (.bool false), .s 6, .s 8]⟩ <|
    .one ⟨some 87, none, .call (.c (.g (.fn 33))) [(.t 82), (.c (.g (.int .i64 3))), (.t 86)]⟩ <|
    .take ⟨some 81, none, .mov (.t 87)⟩ <|
    .take ⟨some 88, none, .ext 0 (.t 81)⟩ <|
    .take ⟨some 89, none, .ext 1 (.t 81)⟩ <|
    .take ⟨some 90, none, .ext 2 (.t 81)⟩ <|
    .free <|
    .one ⟨none, none, .store 9 (.t 13) (.t 88)⟩ <|
    .take ⟨some 14, none, .mov (.t 89)⟩ <|
    .take ⟨some 15, none, .mov (.t 90)⟩ <|
    .leaf)) <|
  .seq (.reg [0, 5, 12, 120] [⟨some 91, none, .mov (.t 12)⟩,
     ⟨some 92, none, .bin .add (.t 91) (.c (.g (.int .i64 4)))⟩,
     ⟨some 93, none, .mov (.t 0)⟩,
     ⟨some 94, none, .len (.t 93)⟩,
     ⟨some 95, none, .bin .lss (.t 92) (.t 94)⟩,
     ⟨some 96, none, .mov (.t 95)⟩,
     ⟨some 97, (some (96, true)), .mov (.t 14)⟩,
     ⟨some 98, (some (96, true)), .mov (.t 97)⟩,
     ⟨some 99, (some (98, false)), .mov (.t 15)⟩,
     ⟨some 100, (some (98, false)), .bin .neq (.t 99) (.c (.g (.int .i64 7)))⟩,
     ⟨some 101, (some (96, true)), .pick (.t 98) (.c (.g (.bool true))) (.t 100)⟩,
     ⟨some 102, none, .pick (.t 96) (.t 101) (.c (.g (.bool false)))⟩,
     ⟨some 103, none, .mov (.t 102)⟩,
     ⟨some 104, (some (103, false)), .mov (.t 12)⟩,
     ⟨some 105, (some (103, false)), .bin .add (.t 104) (.c (.g (.int .i64 4)))⟩,
     ⟨some 106, (some (103, false)), .mov (.t 0)⟩,
     ⟨some 107, (some (103, false)), .len (.t 106)⟩,
     ⟨some 108, (some (103, false)), .bin .geq (.t 105) (.t 107)⟩,
     ⟨some 109, (some (103, false)), .mov (.t 108)⟩,
     ⟨some 110, (some (109, true)), .mov (.t 14)⟩,
     ⟨some 111, (some (109, true)), .un .not (.t 110)⟩,
     ⟨some 112, (some (109, true)), .mov (.t 111)⟩,
     ⟨some 113, (some (112, false)), .faddr 3 (.t 13)⟩,
     ⟨some 114, (some (112, false)), .load false 1 (.t 113)⟩,
     ⟨some 115, (some (112, false)), .mov (.t 12)⟩,
     ⟨some 116, (some (112, false)), .bin .add (.t 115) (.c (.g (.int .i64 1)))⟩,
     ⟨some 117, (some (112, false)), .bin .neq (.t 114) (.t 116)⟩,
     ⟨some 118, (some (109, true)), .pick (.t 112) (.c (.g (.bool true))) (.t 117)⟩,
     ⟨some 119, (some (103, false)), .pick (.t 109) (.t 118) (.c (.g (.bool false)))⟩,
     ⟨some 120, none, .pick (.t 103) (.c (.g (.bool true))) (.t 119)⟩]) <|
  .cond [0, 5, 12] (.t 120)
   (.seq (.reg [4] [⟨some 4, none, .mov (.c (.g (.bool false)))⟩]) <|
    .ret)
   (.skip)) <|
 .reg [0, 5, 12] [⟨some 79, none, .mov (.t 12)⟩,
   ⟨some 80, none, .bin .add (.t 79) (.c (.g (.int .i64 1)))⟩,
   ⟨some 12, none, .mov (.t 80)⟩]
def F12 : IFunc := ⟨2, 126, [.tmp 4], false,
 .seq (.reg [0, 1] [⟨some 4, none, .mov (.c (.g (.bool false)))⟩]) <|
 .seq (.seq (.reg [0, 1, 18] [⟨some 16, none, .mov (.t 0)⟩,
     ⟨some 17, none, .len (.t 16)⟩,
     ⟨some 18, none, .bin .gtr (.t 17) (.c (.g (.int .i64 30)))⟩]) <|
  .cond [0, 1] (.t 18)
   (.seq (.reg [4] [⟨some 19, none, .call (.c (.g (.fn 32))) []⟩,
       ⟨some 4, none, .mov (.t 19)⟩]) <|
    .ret)
   (.skip)) <|
 .seq (.reg [0, 1, 5] [⟨some 20, none, .build [.g (.nsl), .g (.nsl)] []⟩,
    ⟨some 5, none, .alloc [.s 11, .s 2]⟩,
    ⟨none, none, .store 2 (.t 5) (.t 20)⟩]) <|
 .seq (.reg [0, 1, 5, 6] [⟨some 6, none, .mov (.c (.g (.int .i64 0)))⟩]) <|
 .seq (.seq (.reg [0, 1, 5, 6, 7] [⟨some 7, none, .mov (.c (.g (.int .i64 0)))⟩]) <|
  .block [0, 5] 0 <|
  .loop [0, 1, 5, 6, 7] [] L12_0) <|
 .seq (.seq (.reg [0, 5, 12] [⟨some 12, none, .mov (.c (.g (.int .i64 0)))⟩]) <|
  .block [5] 2 <|
  .loop [0, 5, 12] [] L12_1) <|
 .seq (.reg [4] [⟨some 121, none, .load true 2 (.t 5)⟩,
    ⟨some 122, none, .call (.c (.g (.fn 39))) [(.t 121)]⟩,
    ⟨some 123, none, .mov (.t 122)⟩,
    ⟨some 124, (some (123, true)), .call (.c (.g (.fn 32))) []⟩,
    ⟨some 125, none, .pick (.t 123) (.t 124) (.c (.g (.bool false)))⟩,
    ⟨some 4, none, .mov (.t 125)⟩]) <|
 .ret⟩
def h12 : List (List Nat) := [[0, 1], [0, 1, 18], [0, 1], [4], [0, 1, 5], [0, 1, 5, 6], [0, 1, 5, 6, 7], [0, 5], [0, 1, 5, 6, 7], [0, 1, 5, 6, 7, 24], [0, 1, 5, 6, 7], [0, 1, 5, 6, 7], [0, 1, 5, 7, 39], [0, 1, 5, 7], [4], [0, 1, 5, 6, 7], [0, 1, 5, 6, 7, 8, 9], [], [0, 1, 5, 6, 7, 8, 58], [0, 1, 5, 6, 7, 8], [4], [0, 1, 5, 6, 7, 10, 11], [], [0, 1, 5, 6, 7, 10, 73], [0, 1, 5, 6, 7, 10], [4], [0, 1, 5, 6, 7], [0, 1, 5, 6, 7], [0, 5, 12], [5], [0, 5, 12], [0, 5, 12, 78], [0, 5, 12], [0, 5, 12], [0, 5, 12, 13, 14, 15], [], [0, 5, 12, 120], [0, 5, 12], [4], [0, 5, 12], [4]]
theorem c12 : cFunc Try.prog 12 false h12 = some F12 := by kernel_rfl

def L13_0 : IC :=
 .seq (.seq (.reg [0, 3, 4, 5, 8, 10, 11, 67] [⟨some 64, none, .mov (.t 11)⟩,
     ⟨some 65, none, .mov (.t 10)⟩,
     ⟨some 66, none, .len (.t 65)⟩,
     ⟨some 67, none, .bin .lss (.t 64) (.t 66)⟩]) <|
  .cond [0, 3, 4, 5, 8, 10, 11] (.t 67)
   (.skip)
   (.exit 2)) <|
 .seq (.block [0, 3, 4, 5, 8, 10, 11] 3 <|
  .seq (.drw [0, 3, 4, 5, 8, 10, 11, 93] 0 <|
   .take ⟨some 70, none, .mov (.t 10)⟩ <|
   .take ⟨some 71, none, .mov (.t 11)⟩ <|
   .take ⟨some 72, none, .iaddr 1 (.t 70) (.t 71)⟩ <|
   .take ⟨some 73, none, .load false 1 (.t 72)⟩ <|
   .take ⟨some 74, none, .load true 2 (.t 8)⟩ <|
   .take ⟨some 75, none, .mov (.t 5)⟩ <|
   .one ⟨some 76, none, .call (.c (.g (.fn 40))) [(.t 74), (.t 75)]⟩ <|
   .take ⟨some 77, none, .bin .leq (.t 73) (.t 76)⟩ <|
   .take ⟨some 78, none, .mov (.t 77)⟩ <|
   .take ⟨some 79, (some (78, false)), .mov (.t 11)⟩ <|
   .take ⟨some 80, (some (78, false)), .bin .gtr (.t 79) (.c (.g (.int .i64 0)))⟩ <|
   .take ⟨some 81, (some (78, false)), .mov (.t 80)⟩ <|
   .take ⟨some 82, (some (81, true)), .mov (.t 10)⟩ <|
   .take ⟨some 83, (some (81, true)), .mov (.t 11)⟩ <|
   .take ⟨some 84, (some (81, true)), .bin .sub (.t 83) (.c (.g (.int .i64 1)))⟩ <|
   .take ⟨some 85, (some (81, true)), .iaddr 1 (.t 82) (.t 84)⟩ <|
   .take ⟨some 87, (some (81, true)), .mov (.t 10)⟩ <|
   .take ⟨some 88, (some (81, true)), .mov (.t 11)⟩ <|
   .take ⟨some 89, (some (81, true)), .iaddr 1 (.t 87) (.t 88)⟩ <|
   .alt ⟨some 86, (some (81, true)), .load false 1 (.t 85)⟩
   (.one ⟨some 90, (some (81, true)), .load false 1 (.t 89)⟩ <|
    .take ⟨some 91, (some (81, true)), .bin .geq (.t 86) (.t 90)⟩ <|
    .take ⟨some 92, (some (78, false)), .pick (.t 81) (.t 91) (.c (.g (.bool false)))⟩ <|
    .take ⟨some 93, none, .pick (.t 78) (.c (.g (.bool true))) (.t 92)⟩ <|
    .leaf)
   (.one ⟨some 90, (some (81, true)), .load false 1 (.t 89)⟩ <|
    .one ⟨some 86, (some (81, true)), .load false 1 (.t 85)⟩ <|
    .take ⟨some 91, (some (81, true)), .bin .geq (.t 86) (.t 90)⟩ <|
    .take ⟨some 92, (some (78, false)), .pick (.t 81) (.t 91) (.c (.g (.bool false)))⟩ <|
    .take ⟨some 93, none, .pick (.t 78) (.c (.g (.bool true))) (.t 92)⟩ <|
    .leaf)) <|
  .cond [0, 3, 4, 5, 8, 10, 11] (.t 93)
   (.seq (.reg [2] [⟨some 2, none, .mov (.c (.g (.bool false)))⟩]) <|
    .ret)
   (.skip)) <|
 .reg [0, 3, 4, 5, 8, 10, 11] [⟨some 68, none, .mov (.t 11)⟩,
   ⟨some 69, none, .bin .add (.t 68) (.c (.g (.int .i64 1)))⟩,
   ⟨some 11, none, .mov (.t 69)⟩]
def L13_1 : IC :=
 .seq (.seq (.reg [0, 3, 4, 20] [⟨some 17, none, .mov (.t 4)⟩,
     ⟨some 18, none, .mov (.t 0)⟩,
     ⟨some 19, none, .len (.t 18)⟩,
     ⟨some 20, none, .bin .lss (.t 17) (.t 19)⟩]) <|
  .cond [0, 3, 4] (.t 20)
   (.skip)
   (.exit 0)) <|
 .seq (.block [0, 3, 4] 1 <|
  .seq (.reg [0, 3, 4, 5] [⟨some 23, none, .mov (.t 0)⟩,
     ⟨some 24, none, .mov (.t 4)⟩,
     ⟨some 25, none, .iaddr 2 (.t 23) (.t 24)⟩,
     ⟨some 26, none, .iaddrA 2 1 (.t 25) (.c (.g (.int .i64 0)))⟩,
     ⟨some 27, none, .load false 1 (.t 26)⟩,
     ⟨some 5, none, .mov (.t 27)⟩]) <|
  .seq (.reg [0, 3, 4, 5, 6] [⟨some 28, none, .load true 2 (.t 3)⟩,
     ⟨some 29, none, .mov (.t 5)⟩,
     ⟨some 30, none, .call (.c (.g (.fn 40))) [(.t 28), (.t 29)]⟩,
     ⟨some 6, none, .mov (.t 30)⟩]) <|
  .seq (.reg [0, 3, 4, 5, 6, 7] [⟨some 31, none, .load true 2 (.t 3)⟩,
     ⟨some 32, none, .mov (.t 5)⟩,
     ⟨some 33, none, .call (.c (.g (.fn 41))) [(.t 31), (.t 32)]⟩,
     ⟨some 34, none, .len (.t 33)⟩,
     ⟨some 35, none, .bin .gtr (.t 34) (.c (.g (.int .i64 0)))⟩,
     ⟨some 7, none, .mov (.t 35)⟩]) <|
  .seq (.drw [0, 3, 4, 5, 6, 7, 8, 9] 1 <|
   .take ⟨some 37, none, .load true 2 (.t 3)⟩ <|
   .take ⟨some 38, none, .mov (.t 5)⟩ <|
   .take ⟨some 39, none, .mov (.t 0)⟩ <|
   .take ⟨some 40, none, .mov (.t 4)⟩ <|
   .take ⟨some 41, none, .iaddr 2 (.t 39) (.t 40)⟩ <|
   .take ⟨some 42, none, .iaddrA 2 1 (.t 41) (.c (.g (.int .i64 1)))⟩ <|
   .take ⟨some 43, none, .load false 1 (.t 42)⟩ <|
   .take ⟨some 44, none, .mov (.t 4)⟩ <|
   .take ⟨some 45, none, .build [.g (.int .i64 0), .g (.int .i64 0), .g (.int .i64 0), .g (.int .i64 0), .g (.int .i64 0), .g (.int .i64 0), .g (.bool false), .g (.nsl), .g (.nsl)] [(3, 1, (.t 44))]⟩ <|
   .alt ⟨some 46, none, .call (.c (.g (.fn 35))) [(.t 37), (.t 38), (.t 43), (.t 45)]⟩
   (.take ⟨some 36, none, .mov (.t 46)⟩ <|
    .take ⟨some 47, none, .ext 0 (.t 36)⟩ <|
    .take ⟨some 48, none, .ext 1 (.t 36)⟩ <|
    .one ⟨some 8, none, .allocAt 0 [.s 11, .s 2]⟩ <|
    .free <|
    .one ⟨none, none, .store 2 (.t 8) (.t 47)⟩ <|
    .take ⟨some 9, none, .mov (.t 48)⟩ <|
    .leaf)
   (.one ⟨some 8, none, .allocAt 0 [.s 11, .s 2]⟩ <|
    .one ⟨some 46, none, .call (.c (.g (.fn 35))) [(.t 37), (.t 38), (.t 43), (.t 45)]⟩ <|
    .take ⟨some 36, none, .mov (.t 46)⟩ <|
    .take ⟨some 47, none, .ext 0 (.t 36)⟩ <|
    .take ⟨some 48, none, .ext 1 (.t 36)⟩ <|
    .free <|
    .one ⟨none, none, .store 2 (.t 8) (.t 47)⟩ <|
    .take ⟨some 9, none, .mov (.t 48)⟩ <|
    .leaf)) <|
  .seq (.seq (.reg [0, 3, 4, 5, 8, 60] [⟨some 49, none, .load true 2 (.t 8)⟩,
      ⟨some 50, none, .mov (.t 5)⟩,
      ⟨some 51, none, .call (.c (.g (.fn 40))) [(.t 49), (.t 50)]⟩,
      ⟨some 52, none, .mov (.t 6)⟩,
      ⟨some 53, none, .bin .lss (.t 51) (.t 52)⟩,
      ⟨some 54, none, .mov (.t 53)⟩,
      ⟨some 55, (some (54, false)), .mov (.t 9)⟩,
      ⟨some 56, (some (54, false)), .bin .eql (.t 55) (.c (.g (.int .i64 4)))⟩,
      ⟨some 57, (some (54, false)), .mov (.t 56)⟩,
      ⟨some 58, (some (57, true)), .mov (.t 7)⟩,
      ⟨some 59, (some (54, false)), .pick (.t 57) (.t 58) (.c (.g (.bool false)))⟩,
      ⟨some 60, none, .pick (.t 54) (.c (.g (.bool true))) (.t 59)⟩]) <|
   .cond [0, 3, 4, 5, 8] (.t 60)
    (.seq (.reg [2] [⟨some 2, none, .mov (.c (.g (.bool false)))⟩]) <|
     .ret)
    (.skip)) <|
  .seq (.reg [0, 3, 4, 5, 8, 10] [⟨some 61, none, .load true 2 (.t 8)⟩,
     ⟨some 62, none, .mov (.t 5)⟩,
     ⟨some 63, none, .call (.c (.g (.fn 41))) [(.t 61), (.t 62)]⟩,
     ⟨some 10, none, .mov (.t 63)⟩]) <|
  .seq (.seq (.reg [0, 3, 4, 5, 8, 10, 11] [⟨some 11, none, .mov (.c (.g (.int .i64 0)))⟩]) <|
   .block [0, 3, 4, 8, 10] 2 <|
   .loop [0, 3, 4, 5, 8, 10, 11] [] L13_0) <|
  .seq (.seq (.reg [0, 3, 4, 8, 107] [⟨some 94, none, .mov (.t 10)⟩,
      ⟨some 95, none, .len (.t 94)⟩,
      ⟨some 96, none, .bin .gtr (.t 95) (.c (.g (.int .i64 4)))⟩,
      ⟨some 97, none, .mov (.t 96)⟩,
      ⟨some 98, (some (97, false)), .load true 2 (.t 8)⟩,
      ⟨some 99, (some (97, false)), .call (.c (.g (.fn 42))) [(.t 98)]⟩,
      ⟨some 100, (some (97, false)), .len (.t 99)⟩,
      ⟨some 101, (some (97, false)), .bin .gtr (.t 100) (.c (.g (.int .i64 8)))⟩,
      ⟨some 102, none, .pick (.t 97) (.c (.g (.bool true))) (.t 101)⟩,
      ⟨some 103, none, .mov (.t 102)⟩,
      ⟨some 104, (some (103, false)), .load true 2 (.t 8)⟩,
      ⟨some 105, (some (103, false)), .call (.c (.g (.fn 39))) [(.t 104)]⟩,
      ⟨some 106, (some (103, false)), .un .not (.t 105)⟩,
      ⟨some 107, none, .pick (.t 103) (.c (.g (.bool true))) (.t 106)⟩]) <|
   .cond [0, 3, 4, 8] (.t 107)
    (.seq (.reg [2] [⟨some 2, none, .mov (.c (.g (.bool false)))⟩]) <|
     .ret)
    (.skip)) <|
  .reg [0, 3, 4] [⟨some 108, none, .load true 2 (.t 8)⟩,
    ⟨none, none, .store 2 (.t 3) (.t 108)⟩]) <|
 .reg [0, 3, 4] [⟨some 21, none, .mov (.t 4)⟩,
   ⟨some 22, none, .bin .add (.t 21) (.c (.g (.int .i64 1)))⟩,
   ⟨some 4, none, .mov (.t 22)⟩]
def F13 : IFunc := ⟨1, 110, [.tmp 2], false,
 .seq (.reg [0] [⟨some 2, none, .mov (.c (.g (.bool false)))⟩]) <|
 .seq (.seq (.reg [0, 14] [⟨some 12, none, .mov (.t 0)⟩,
     ⟨some 13, none, .len (.t 12)⟩,
     ⟨some 14, none, .bin .gtr (.t 13) (.c (.g (.int .i64 60)))⟩]) <|
  .cond [0] (.t 14)
   (.seq (.reg [2] [⟨some 15, none, .call (.c (.g (.fn 32))) []⟩,
       ⟨some 2, none, .mov (.t 15)⟩]) <|
    .ret)
   (.skip)) <|
 .seq (.reg [0, 3] [⟨some 16, none, .build [.g (.nsl), .g (.nsl)] []⟩,
    ⟨some 3, none, .alloc [.s 11, .s 2]⟩,
    ⟨none, none, .store 2 (.t 3) (.t 16)⟩]) <|
 .seq (.seq (.reg [0, 3, 4] [⟨some 4, none, .mov (.c (.g (.int .i64 0)))⟩]) <|
  .block [] 0 <|
  .loop [0, 3, 4] [] L13_1) <|
 .seq (.reg [2] [⟨some 109, none, .call (.c (.g (.fn 32))) []⟩,
    ⟨some 2, none, .mov (.t 109)⟩]) <|
 .ret⟩
def h13 : List (List Nat) := [[0], [0, 14], [0], [2], [0, 3], [0, 3, 4], [], [0, 3, 4], [0, 3, 4, 20], [0, 3, 4], [0, 3, 4], [0, 3, 4, 5], [0, 3, 4, 5, 6], [0, 3, 4, 5, 6, 7], [0, 3, 4, 5, 6, 7, 8, 9], [], [0, 3, 4, 5, 8, 60], [0, 3, 4, 5, 8], [2], [0, 3, 4, 5, 8, 10], [0, 3, 4, 5, 8, 10, 11], [0, 3, 4, 8, 10], [0, 3, 4, 5, 8, 10, 11], [0, 3, 4, 5, 8, 10, 11, 67], [0, 3, 4, 5, 8, 10, 11], [0, 3, 4, 5, 8, 10, 11], [0, 3, 4, 5, 8, 10, 11, 93], [], [0, 3, 4, 5, 8, 10, 11], [2], [0, 3, 4, 5, 8, 10, 11], [0, 3, 4, 8, 107], [0, 3, 4, 8], [2], [0, 3, 4], [0, 3, 4], [2]]
theorem c13 : cFunc Try.prog 13 false h13 = some F13 := by kernel_rfl

def L18_0 : IC :=
 .seq (.seq (.reg [0, 1, 5, 14] [⟨some 11, none, .mov (.t 5)⟩,
     ⟨some 12, none, .mov (.t 0)⟩,
     ⟨some 13, none, .len (.t 12)⟩,
     ⟨some 14, none, .bin .lss (.t 11) (.t 13)⟩]) <|
  .cond [0, 1, 5] (.t 14)
   (.skip)
   (.exit 0)) <|
 .seq (.block [0, 1, 5] 1 <|
  .seq (.drw [0, 1, 5, 25] 0 <|
   .take ⟨some 17, none, .mov (.t 0)⟩ <|
   .take ⟨some 18, none, .mov (.t 5)⟩ <|
   .take ⟨some 19, none, .iaddr 8 (.t 17) (.t 18)⟩ <|
   .take ⟨some 20, none, .load true 8 (.t 19)⟩ <|
   .take ⟨some 21, none, .mov (.t 1)⟩ <|
   .take ⟨some 22, none, .mov (.t 5)⟩ <|
   .take ⟨some 23, none, .iaddr 8 (.t 21) (.t 22)⟩ <|
   .take ⟨some 24, none, .load true 8 (.t 23)⟩ <|
   .free <|
   .take ⟨some 25, none, .eqs true true [.i, .b, .s, .s, .i, .i, .i, .i] (.t 20) (.t 24)⟩ <|
   .leaf) <|
  .cond [0, 1, 5] (.t 25)
   (.seq (.reg [4] [⟨some 4, none, .mov (.c (.g (.bool false)))⟩]) <|
    .ret)
   (.skip)) <|
 .reg [0, 1, 5] [⟨some 15, none, .mov (.t 5)⟩,
   ⟨some 16, none, .bin .add (.t 15) (.c (.g (.int .i64 1)))⟩,
   ⟨some 5, none, .mov (.t 16)⟩]
def F18 : IFunc := ⟨2, 26, [.tmp 4], false,
 .seq (.reg [0, 1] [⟨some 4, none, .mov (.c (.g (.bool false)))⟩]) <|
 .seq (.seq (.reg [0, 1, 10] [⟨some 6, none, .mov (.t 0)⟩,
     ⟨some 7, none, .len (.t 6)⟩,
     ⟨some 8, none, .mov (.t 1)⟩,
     ⟨some 9, none, .len (.t 8)⟩,
     ⟨some 10, none, .bin .neq (.t 7) (.t 9)⟩]) <|
  .cond [0, 1] (.t 10)
   (.seq (.reg [4] [⟨some 4, none, .mov (.c (.g (.bool false)))⟩]) <|
    .ret)
   (.skip)) <|
 .seq (.seq (.reg [0, 1, 5] [⟨some 5, none, .mov (.c (.g (.int .i64 0)))⟩]) <|
  .block [] 0 <|
  .loop [0, 1, 5] [] L18_0) <|
 .seq (.reg [4] [⟨some 4, none, .mov (.c (.g (.bool true)))⟩]) <|
 .ret⟩
def h18 : List (List Nat) := [[0, 1], [0, 1, 10], [0, 1], [4], [0, 1, 5], [], [0, 1, 5], [0, 1, 5, 14], [0, 1, 5], [0, 1, 5], [0, 1, 5, 25], [], [0, 1, 5], [4], [0, 1, 5], [4]]
theorem c18 : cFunc Try.prog 18 false h18 = some F18 := by kernel_rfl

def L19_0 : IC :=
 .seq (.seq (.reg [0, 5, 13] [⟨some 10, none, .mov (.t 5)⟩,
     ⟨some 11, none, .mov (.t 0)⟩,
     ⟨some 12, none, .len (.t 11)⟩,
     ⟨some 13, none, .bin .lss (.t 10) (.t 12)⟩]) <|
  .cond [0, 5] (.t 13)
   (.skip)
   (.exit 0)) <|
 .seq (.block [0, 5] 1 <|
  .seq (.reg [0, 5, 31] [⟨some 16, none, .mov (.t 0)⟩,
     ⟨some 17, none, .mov (.t 5)⟩,
     ⟨some 18, none, .iaddr 6 (.t 16) (.t 17)⟩,
     ⟨some 19, none, .faddr 0 (.t 18)⟩,
     ⟨some 20, none, .load false 1 (.t 19)⟩,
     ⟨some 21, none, .lenS (.t 20)⟩,
     ⟨some 22, none, .bin .gtr (.t 21) (.c (.g (.int .i64 60)))⟩,
     ⟨some 23, none, .mov (.t 22)⟩,
     ⟨some 24, (some (23, false)), .mov (.t 0)⟩,
     ⟨some 25, (some (23, false)), .mov (.t 5)⟩,
     ⟨some 26, (some (23, false)), .iaddr 6 (.t 24) (.t 25)⟩,
     ⟨some 27, (some (23, false)), .faddr 1 (.t 26)⟩,
     ⟨some 28, (some (23, false)), .load false 1 (.t 27)⟩,
     ⟨some 29, (some (23, false)), .lenS (.t 28)⟩,
     ⟨some 30, (some (23, false)), .bin .gtr (.t 29) (.c (.g (.int .i64 60)))⟩,
     ⟨some 31, none, .pick (.t 23) (.c (.g (.bool true))) (.t 30)⟩]) <|
  .cond [0, 5] (.t 31)
   (.seq (.reg [4] [⟨some 4, none, .mov (.c (.g (.bool false)))⟩]) <|
    .ret)
   (.skip)) <|
 .reg [0, 5] [⟨some 14, none, .mov (.t 5)⟩,
   ⟨some 15, none, .bin .add (.t 14) (.c (.g (.int .i64 1)))⟩,
   ⟨some 5, none, .mov (.t 15)⟩]
def F19 : IFunc := ⟨2, 32, [.tmp 4], false,
 .seq (.reg [0, 1] [⟨some 4, none, .mov (.c (.g (.bool false)))⟩]) <|
 .seq (.seq (.reg [0, 9] [⟨some 6, none, .mov (.t 0)⟩,
     ⟨some 7, none, .len (.t 6)⟩,
     ⟨some 8, none, .mov (.t 1)⟩,
     ⟨some 9, none, .bin .gtr (.t 7) (.t 8)⟩]) <|
  .cond [0] (.t 9)
   (.seq (.reg [4] [⟨some 4, none, .mov (.c (.g (.bool false)))⟩]) <|
    .ret)
   (.skip)) <|
 .seq (.seq (.reg [0, 5] [⟨some 5, none, .mov (.c (.g (.int .i64 0)))⟩]) <|
  .block [] 0 <|
  .loop [0, 5] [] L19_0) <|
 .seq (.reg [4] [⟨some 4, none, .mov (.c (.g (.bool true)))⟩]) <|
 .ret⟩
def h19 : List (List Nat) := [[0, 1], [0, 9], [0], [4], [0, 5], [], [0, 5], [0, 5, 13], [0, 5], [0, 5], [0, 5, 31], [0, 5], [4], [0, 5], [4]]
theorem c19 : cFunc Try.prog 19 false h19 = some F19 := by kernel_rfl

def L22_0 : IC :=
 .seq (.seq (.reg [0, 1, 5, 14] [⟨some 11, none, .mov (.t 5)⟩,
     ⟨some 12, none, .mov (.t 0)⟩,
     ⟨some 13, none, .len (.t 12)⟩,
     ⟨some 14, none, .bin .lss (.t 11) (.t 13)⟩]) <|
  .cond [0, 1, 5] (.t 14)
   (.skip)
   (.exit 0)) <|
 .seq (.block [0, 1, 5] 1 <|
  .seq (.drw [0, 1, 5, 25] 0 <|
   .take ⟨some 17, none, .mov (.t 0)⟩ <|
   .take ⟨some 18, none, .mov (.t 5)⟩ <|
   .take ⟨some 19, none, .iaddr 6 (.t 17) (.t 18)⟩ <|
   .take ⟨some 20, none, .load true 6 (.t 19)⟩ <|
   .take ⟨some 21, none, .mov (.t 1)⟩ <|
   .take ⟨some 22, none, .mov (.t 5)⟩ <|
   .take ⟨some 23, none, .iaddr 6 (.t 21) (.t 22)⟩ <|
   .take ⟨some 24, none, .load true 6 (.t 23)⟩ <|
   .free <|
   .take ⟨some 25, none, .eqs true true [.s, .s, .i, .i, .i, .i] (.t 20) (.t 24)⟩ <|
   .leaf) <|
  .cond [0, 1, 5] (.t 25)
   (.seq (.reg [4] [⟨some 4, none, .mov (.c (.g (.bool false)))⟩]) <|
    .ret)
   (.skip)) <|
 .reg [0, 1, 5] [⟨some 15, none, .mov (.t 5)⟩,
   ⟨some 16, none, .bin .add (.t 15) (.c (.g (.int .i64 1)))⟩,
   ⟨some 5, none, .mov (.t 16)⟩]
def F22 : IFunc := ⟨2, 26, [.tmp 4], false,
 .seq (.reg [0, 1] [⟨some 4, none, .mov (.c (.g (.bool false)))⟩]) <|
 .seq (.seq (.reg [0, 1, 10] [⟨some 6, none, .mov (.t 0)⟩,
     ⟨some 7, none, .len (.t 6)⟩,
     ⟨some 8, none, .mov (.t 1)⟩,
     ⟨some 9, none, .len (.t 8)⟩,
     ⟨some 10, none, .bin .neq (.t 7) (.t 9)⟩]) <|
  .cond [0, 1] (.t 10)
   (.seq (.reg [4] [⟨some 4, none, .mov (.c (.g (.bool false)))⟩]) <|
    .ret)
   (.skip)) <|
 .seq (.seq (.reg [0, 1, 5] [⟨some 5, none, .mov (.c (.g (.int .i64 0)))⟩]) <|
  .block [] 0 <|
  .loop [0, 1, 5] [] L22_0) <|
 .seq (.reg [4] [⟨some 4, none, .mov (.c (.g (.bool true)))⟩]) <|
 .ret⟩
def h22 : List (List Nat) := [[0, 1], [0, 1, 10], [0, 1], [4], [0, 1, 5], [], [0, 1, 5], [0, 1, 5, 14], [0, 1, 5], [0, 1, 5], [0, 1, 5, 25], [], [0, 1, 5], [4], [0, 1, 5], [4]]
theorem c22 : cFunc Try.prog 22 false h22 = some F22 := by kernel_rfl

def L30_0 : IC :=
 .seq (.seq (.reg [1, 3, 18] [⟨some 14, none, .mov (.t 3)⟩,
     ⟨some 15, none, .faddr 0 (.t 1)⟩,
     ⟨some 16, none, .load false 1 (.t 15)⟩,
     ⟨some 17, none, .len (.t 16)⟩,
     ⟨some 18, none, .bin .lss (.t 14) (.t 17)⟩]) <|
  .cond [1, 3] (.t 18)
   (.skip)
   (.exit 0)) <|
 .seq (.block [1, 3] 1 <|
  .seq (.reg [1, 3, 40] [⟨some 21, none, .faddr 0 (.t 1)⟩,
     ⟨some 22, none, .load false 1 (.t 21)⟩,
     ⟨some 23, none, .mov (.t 3)⟩,
     ⟨some 24, none, .iaddr 11 (.t 22) (.t 23)⟩,
     ⟨some 25, none, .faddr 2 (.t 24)⟩,
     ⟨some 26, none, .faddr 7 (.t 25)⟩,
     ⟨some 27, none, .load false 1 (.t 26)⟩,
     ⟨some 28, none, .call (.c (.g (.fn 19))) [(.t 27), (.c (.g (.int .i64 40)))]⟩,
     ⟨some 29, none, .un .not (.t 28)⟩,
     ⟨some 30, none, .mov (.t 29)⟩,
     ⟨some 31, (some (30, false)), .faddr 0 (.t 1)⟩,
     ⟨some 32, (some (30, false)), .load false 1 (.t 31)⟩,
     ⟨some 33, (some (30, false)), .mov (.t 3)⟩,
     ⟨some 34, (some (30, false)), .iaddr 11 (.t 32) (.t 33)⟩,
     ⟨some 35, (some (30, false)), .faddr 2 (.t 34)⟩,
     ⟨some 36, (some (30, false)), .faddr 8 (.t 35)⟩,
     ⟨some 37, (some (30, false)), .load false 1 (.t 36)⟩,
     ⟨some 38, (some (30, false)), .call (.c (.g (.fn 31))) [(.t 37), (.c (.g (.int .i64 40)))]⟩,
     ⟨some 39, (some (30, false)), .un .not (.t 38)⟩,
     ⟨some 40, none, .pick (.t 30) (.c (.g (.bool true))) (.t 39)⟩]) <|
  .cond [1, 3] (.t 40)
   (.seq (.reg [2] [⟨some 2, none, .mov (.c (.g (.bool false)))⟩]) <|
    .ret)
   (.skip)) <|
 .reg [1, 3] [⟨some 19, none, .mov (.t 3)⟩,
   ⟨some 20, none, .bin .add (.t 19) (.c (.g (.int .i64 1)))⟩,
   ⟨some 3, none, .mov (.t 20)⟩]
def F30 : IFunc := ⟨1, 41, [.tmp 2], false,
 .seq (.reg [1] [⟨some 1, none, .box (.t 0)⟩,
    ⟨some 2, none, .mov (.c (.g (.bool false)))⟩]) <|
 .seq (.seq (.reg [1, 13] [⟨some 4, none, .faddr 0 (.t 1)⟩,
     ⟨some 5, none, .load false 1 (.t 4)⟩,
     ⟨some 6, none, .len (.t 5)⟩,
     ⟨some 7, none, .bin .gtr (.t 6) (.c (.g (.int .i64 40)))⟩,
     ⟨some 8, none, .mov (.t 7)⟩,
     ⟨some 9, (some (8, false)), .faddr 1 (.t 1)⟩,
     ⟨some 10, (some (8, false)), .load false 1 (.t 9)⟩,
     ⟨some 11, (some (8, false)), .len (.t 10)⟩,
     ⟨some 12, (some (8, false)), .bin .gtr (.t 11) (.c (.g (.int .i64 20)))⟩,
     ⟨some 13, none, .pick (.t 8) (.c (.g (.bool true))) (.t 12)⟩]) <|
  .cond [1] (.t 13)
   (.seq (.reg [2] [⟨some 2, none, .mov (.c (.g (.bool false)))⟩]) <|
    .ret)
   (.skip)) <|
 .seq (.seq (.reg [1, 3] [⟨some 3, none, .mov (.c (.g (.int .i64 0)))⟩]) <|
  .block [] 0 <|
  .loop [1, 3] [] L30_0) <|
 .seq (.reg [2] [⟨some 2, none, .mov (.c (.g (.bool true)))⟩]) <|
 .ret⟩
def h30 : List (List Nat) := [[1], [1, 13], [1], [2], [1, 3], [], [1, 3], [1, 3, 18], [1, 3], [1, 3], [1, 3, 40], [1, 3], [2], [1, 3], [2]]
theorem c30 : cFunc Try.prog 30 false h30 = some F30 := by kernel_rfl

def L31_0 : IC :=
 .seq (.seq (.reg [0, 5, 13] [⟨some 10, none, .mov (.t 5)⟩,
     ⟨some 11, none, .mov (.t 0)⟩,
     ⟨some 12, none, .len (.t 11)⟩,
     ⟨some 13, none, .bin .lss (.t 10) (.t 12)⟩]) <|
  .cond [0, 5] (.t 13)
   (.skip)
   (.exit 0)) <|
 .seq (.block [0, 5] 1 <|
  .seq (.reg [0, 5, 33] [⟨some 16, none, .mov (.t 0)⟩,
     ⟨some 17, none, .mov (.t 5)⟩,
     ⟨some 18, none, .iaddr 8 (.t 16) (.t 17)⟩,
     ⟨some 19, none, .faddr 2 (.t 18)⟩,
     ⟨some 20, none, .faddr 0 (.t 19)⟩,
     ⟨some 21, none, .load false 1 (.t 20)⟩,
     ⟨some 22, none, .lenS (.t 21)⟩,
     ⟨some 23, none, .bin .gtr (.t 22) (.c (.g (.int .i64 60)))⟩,
     ⟨some 24, none, .mov (.t 23)⟩,
     ⟨some 25, (some (24, false)), .mov (.t 0)⟩,
     ⟨some 26, (some (24, false)), .mov (.t 5)⟩,
     ⟨some 27, (some (24, false)), .iaddr 8 (.t 25) (.t 26)⟩,
     ⟨some 28, (some (24, false)), .faddr 2 (.t 27)⟩,
     ⟨some 29, (some (24, false)), .faddr 1 (.t 28)⟩,
     ⟨some 30, (some (24, false)), .load false 1 (.t 29)⟩,
     ⟨some 31, (some (24, false)), .lenS (.t 30)⟩,
     ⟨some 32, (some (24, false)), .bin .gtr (.t 31) (.c (.g (.int .i64 60)))⟩,
     ⟨some 33, none, .pick (.t 24) (.c (.g (.bool true))) (.t 32)⟩]) <|
  .cond [0, 5] (.t 33)
   (.seq (.reg [4] [⟨some 4, none, .mov (.c (.g (.bool false)))⟩]) <|
    .ret)
   (.skip)) <|
 .reg [0, 5] [⟨some 14, none, .mov (.t 5)⟩,
   ⟨some 15, none, .bin .add (.t 14) (.c (.g (.int .i64 1)))⟩,
   ⟨some 5, none, .mov (.t 15)⟩]
def F31 : IFunc := ⟨2, 34, [.tmp 4], false,
 .seq (.reg [0, 1] [⟨some 4, none, .mov (.c (.g (.bool false)))⟩]) <|
 .seq (.seq (.reg [0, 9] [⟨some 6, none, .mov (.t 0)⟩,
     ⟨some 7, none, .len (.t 6)⟩,
     ⟨some 8, none, .mov (.t 1)⟩,
     ⟨some 9, none, .bin .gtr (.t 7) (.t 8)⟩]) <|
  .cond [0] (.t 9)
   (.seq (.reg [4] [⟨some 4, none, .mov (.c (.g (.bool false)))⟩]) <|
    .ret)
   (.skip)) <|
 .seq (.seq (.reg [0, 5] [⟨some 5, none, .mov (.c (.g (.int .i64 0)))⟩]) <|
  .block [] 0 <|
  .loop [0, 5] [] L31_0) <|
 .seq (.reg [4] [⟨some 4, none, .mov (.c (.g (.bool true)))⟩]) <|
 .ret⟩
def h31 : List (List Nat) := [[0, 1], [0, 9], [0], [4], [0, 5], [], [0, 5], [0, 5, 13], [0, 5], [0, 5], [0, 5, 33], [0, 5], [4], [0, 5], [4]]
theorem c31 : cFunc Try.prog 31 false h31 = some F31 := by kernel_rfl

def L32_0 : IC :=
 .seq (.seq (.reg [1, 2, 20] [⟨some 19, none, .mov (.t 2)⟩,
     ⟨some 20, none, .bin .leq (.t 19) (.c (.g (.int .i64 5)))⟩]) <|
  .cond [1, 2] (.t 20)
   (.skip)
   (.exit 0)) <|
 .seq (.block [1, 2] 1 <|
  .seq (.reg [1, 2, 3, 4] [⟨some 24, none, .load true 2 (.t 1)⟩,
     ⟨some 25, none, .mov (.t 2)⟩,
     ⟨some 26, none, .mov (.t 2)⟩,
     ⟨some 27, none, .build [.g (.int .i64 0), .g (.int .i64 0), .g (.int .i64 0), .g (.int .i64 0), .g (.int .i64 0), .g (.int .i64 0), .g (.bool false), .g (.nsl), .g (.nsl)] [(3, 1, (.t 26))]⟩,
     ⟨some 28, none, .call (.c (.g (.fn 35))) [(.t 24), (.c (.g (.int .i64 7))), (.t 25), (.t 27)]⟩,
     ⟨some 23, none, .mov (.t 28)⟩,
     ⟨some 29, none, .ext 0 (.t 23)⟩,
     ⟨some 30, none, .ext 1 (.t 23)⟩,
     ⟨some 3, none, .alloc [.s 11, .s 2]⟩,
     ⟨none, none, .store 2 (.t 3) (.t 29)⟩,
     ⟨some 4, none, .mov (.t 30)⟩]) <|
  .seq (.seq (.reg [1, 2, 3, 32] [⟨some 31, none, .mov (.t 4)⟩,
      ⟨some 32, none, .bin .neq (.t 31) (.c (.g (.int .i64 0)))⟩]) <|
   .cond [1, 2, 3] (.t 32)
    (.seq (.reg [0] [⟨some 0, none, .mov (.c (.g (.bool false)))⟩]) <|
     .ret)
    (.skip)) <|
  .reg [1, 2] [⟨some 33, none, .load true 2 (.t 3)⟩,
    ⟨none, none, .store 2 (.t 1) (.t 33)⟩]) <|
 .reg [1, 2] [⟨some 21, none, .mov (.t 2)⟩,
   ⟨some 22, none, .bin .add (.t 21) (.c (.g (.int .i64 1)))⟩,
   ⟨some 2, none, .mov (.t 22)⟩]
def F32 : IFunc := ⟨0, 142, [.tmp 0], false,
 .seq (.reg [] [⟨some 0, none, .mov (.c (.g (.bool false)))⟩]) <|
 .seq (.reg [1] [⟨some 18, none, .build [.g (.nsl), .g (.nsl)] []⟩,
    ⟨some 1, none, .alloc [.s 11, .s 2]⟩,
    ⟨none, none, .store 2 (.t 1) (.t 18)⟩]) <|
 .seq (.seq (.reg [1, 2] [⟨some 2, none, .mov (.c (.g (.int .i64 1)))⟩]) <|
  .block [1] 0 <|
  .loop [1, 2] [] L32_0) <|
 .seq (.reg [1, 5, 6, 7] [⟨some 35, none, .load true 2 (.t 1)⟩,
    ⟨some 36, none, .call (.c (.g (.fn 33))) [(.t 35), (.c (.g (.int .i64 7))), (.c (.g (.int .i64 3)))]⟩,
    ⟨some 34, none, .mov (.t 36)⟩,
    ⟨some 37, none, .ext 0 (.t 34)⟩,
    ⟨some 38, none, .ext 1 (.t 34)⟩,
    ⟨some 39, none, .ext 2 (.t 34)⟩,
    ⟨some 5, none, .alloc [.z (.int .i64 0), .z (.int .i64 0), .z (.int .i64 0), .z (.int .i64 0), .z (.int .i64 0), .z (.int .i64 0), .z (.bool false), .s 6, .s 8]⟩,
    ⟨none, none, .store 9 (.t 5) (.t 37)⟩,
    ⟨some 6, none, .mov (.t 38)⟩,
    ⟨some 7, none, .mov (.t 39)⟩]) <|
 .seq (.reg [1, 5, 6, 7, 9, 10] [⟨some 41, none, .load true 2 (.t 1)⟩,
    ⟨some 42, none, .call (.c (.g (.fn 33))) [(.t 41), (.c (.g (.int .i64 7))), (.c (.g (.int .i64 1)))]⟩,
    ⟨some 40, none, .mov (.t 42)⟩,
    ⟨some 43, none, .ext 0 (.t 40)⟩,
    ⟨some 44, none, .ext 1 (.t 40)⟩,
    ⟨some 45, none, .ext 2 (.t 40)⟩,
    ⟨some 8, none, .alloc [.z (.int .i64 0), .z (.int .i64 0), .z (.int .i64 0), .z (.int .i64 0), .z (.int .i64 0), .z (.int .i64 0), .z (.bool false), .s 6, .s 8]⟩,
    ⟨none, none, .store 9 (.t 8) (.t 43)⟩,
    ⟨some 9, none, .mov (.t 44)⟩,
    ⟨some 10, none, .mov (.t 45)⟩]) <|
 .seq (.reg [1, 5, 6, 7, 9, 10, 12, 13] [⟨some 47, none, .load true 2 (.t 1)⟩,
    ⟨some 48, none, .call (.c (.g (.fn 33))) [(.t 47), (.c (.g (.int .i64 7))), (.c (.g (.int .i64 6)))]⟩,
    ⟨some 46, none, .mov (.t 48)⟩,
    ⟨some 49, none, .ext 0 (.t 46)⟩,
    ⟨some 50, none, .ext 1 (.t 46)⟩,
    ⟨some 51, none, .ext 2 (.t 46)⟩,
    ⟨some 11, none, .alloc [.z (.int .i64 0), .z (.int .i64 0), .z (.int .i64 0), .z (.int .i64 0), .z (.int .i64 0), .z (.int .i64 0), .z (.bool false), .s 6, .s 8]⟩,
    ⟨none, none, .store 9 (.t 11) (.t 49)⟩,
    ⟨some 12, none, .mov (.t 50)⟩,
    ⟨some 13, none, .mov (.t 51)⟩]) <|
 .seq (.reg [1, 5, 6, 7, 9, 10, 12, 13, 15] [⟨some 53, none, .load true 2 (.t 1)⟩,
    ⟨some 54, none, .build [.g (.int .i64 0), .g (.int .i64 0), .g (.int .i64 0), .g (.int .i64 0), .g (.int .i64 0), .g (.int .i64 0), .g (.bool false), .g (.nsl), .g (.nsl)] []⟩,
    ⟨some 55, none, .call (.c (.g (.fn 35))) [(.t 53), (.c (.g (.int .i64 7))), (.c (.g (.int .i64 3))), (.t 54)]⟩,
    ⟨some 52, none, .mov (.t 55)⟩,
    ⟨some 56, none, .ext 0 (.t 52)⟩,
    ⟨some 57, none, .ext 1 (.t 52)⟩,
    ⟨some 14, none, .alloc [.s 11, .s 2]⟩,
    ⟨none, none, .store 2 (.t 14) (.t 56)⟩,
    ⟨some 15, none, .mov (.t 57)⟩]) <|
 .seq (.reg [1, 5, 6, 7, 9, 10, 12, 13, 15, 16] [⟨some 58, none, .load true 2 (.t 1)⟩,
    ⟨some 59, none, .call (.c (.g (.fn 41))) [(.t 58), (.c (.g (.int .i64 7)))]⟩,
    ⟨some 16, none, .mov (.t 59)⟩]) <|
 .seq (.reg [1, 5, 6, 7, 9, 10, 12, 13, 15, 16, 17] [⟨some 60, none, .load true 2 (.t 1)⟩,
    ⟨some 61, none, .call (.c (.g (.fn 42))) [(.t 60)]⟩,
    ⟨some 17, none, .mov (.t 61)⟩]) <|
 .seq (.reg [0] [⟨some 62, none, .faddr 3 (.t 5)⟩,
    ⟨some 63, none, .load false 1 (.t 62)⟩,
    ⟨some 64, none, .bin .eql (.t 63) (.c (.g (.int .i64 3)))⟩,
    ⟨some 65, none, .mov (.t 64)⟩,
    ⟨some 66, (some (65, true)), .mov (.t 6)⟩,
    ⟨some 67, none, .pick (.t 65) (.t 66) (.c (.g (.bool false)))⟩,
    ⟨some 68, none, .mov (.t 67)⟩,
    ⟨some 69, (some (68, true)), .mov (.t 7)⟩,
    ⟨some 70, (some (68, true)), .bin .eql (.t 69) (.c (.g (.int .i64 0)))⟩,
    ⟨some 71, none, .pick (.t 68) (.t 70) (.c (.g (.bool false)))⟩,
    ⟨some 72, none, .mov (.t 71)⟩,
    ⟨some 73, (some (72, true)), .mov (.t 9)⟩,
    ⟨some 74, (some (72, true)), .un .not (.t 73)⟩,
    ⟨some 75, none, .pick (.t 72) (.t 74) (.c (.g (.bool false)))⟩,
    ⟨some 76, none, .mov (.t 75)⟩,
    ⟨some 77, (some (76, true)), .mov (.t 10)⟩,
    ⟨some 78, (some (76, true)), .bin .eql (.t 77) (.c (.g (.int .i64 7)))⟩,
    ⟨some 79, none, .pick (.t 76) (.t 78) (.c (.g (.bool false)))⟩,
    ⟨some 80, none, .mov (.t 79)⟩,
    ⟨some 81, (some (80, true)), .mov (.t 12)⟩,
    ⟨some 82, (some (80, true)), .un .not (.t 81)⟩,
    ⟨some 83, none, .pick (.t 80) (.t 82) (.c (.g (.bool false)))⟩,
    ⟨some 84, none, .mov (.t 83)⟩,
    ⟨some 85, (some (84, true)), .mov (.t 13)⟩,
    ⟨some 86, (some (84, true)), .bin .eql (.t 85) (.c (.g (.int .i64 0)))⟩,
    ⟨some 87, none, .pick (.t 84) (.t 86) (.c (.g (.bool false)))⟩,
    ⟨some 88, none, .mov (.t 87)⟩,
    ⟨some 89, (some (88, true)), .mov (.t 15)⟩,
    ⟨some 90, (some (88, true)), .bin .eql (.t 89) (.c (.g (.int .i64 11)))⟩,
    ⟨some 91, none, .pick (.t 88) (.t 90) (.c (.g (.bool false)))⟩,
    ⟨some 92, none, .mov (.t 91)⟩,
    ⟨some 93, (some (92, true)), .mov (.t 16)⟩,
    ⟨some 94, (some (92, true)), .len (.t 93)⟩,
    ⟨some 95, (some (92, true)), .bin .eql (.t 94) (.c (.g (.int .i64 4)))⟩,
    ⟨some 96, none, .pick (.t 92) (.t 95) (.c (.g (.bool false)))⟩,
    ⟨some 97, none, .mov (.t 96)⟩,
    ⟨some 98, (some (97, true)), .mov (.t 16)⟩,
    ⟨some 99, (some (97, true)), .iaddr 1 (.t 98) (.c (.g (.int .i64 0)))⟩,
    ⟨some 100, (some (97, true)), .load false 1 (.t 99)⟩,
    ⟨some 101, (some (97, true)), .bin .eql (.t 100) (.c (.g (.int .i64 2)))⟩,
    ⟨some 102, none, .pick (.t 97) (.t 101) (.c (.g (.bool false)))⟩,
    ⟨some 103, none, .mov (.t 102)⟩,
    ⟨some 104, (some (103, true)), .mov (.t 16)⟩,
    ⟨some 105, (some (103, true)), .iaddr 1 (.t 104) (.c (.g (.int .i64 3)))⟩,
    ⟨some 106, (some (103, true)), .load false 1 (.t 105)⟩,
    ⟨some 107, (some (103, true)), .bin .eql (.t 106) (.c (.g (.int .i64 5)))⟩,
    ⟨some 108, none, .pick (.t 103) (.t 107) (.c (.g (.bool false)))⟩,
    ⟨some 109, none, .mov (.t 108)⟩,
    ⟨some 110, (some (109, true)), .mov (.t 17)⟩,
    ⟨some 111, (some (109, true)), .len (.t 110)⟩,
    ⟨some 112, (some (109, true)), .bin .eql (.t 111) (.c (.g (.int .i64 1)))⟩,
    ⟨some 113, none, .pick (.t 109) (.t 112) (.c (.g (.bool false)))⟩,
    ⟨some 114, none, .mov (.t 113)⟩,
    ⟨some 115, (some (114, true)), .mov (.t 17)⟩,
    ⟨some 116, (some (114, true)), .iaddr 1 (.t 115) (.c (.g (.int .i64 0)))⟩,
    ⟨some 117, (some (114, true)), .load false 1 (.t 116)⟩,
    ⟨some 118, (some (114, true)), .bin .eql (.t 117) (.c (.g (.int .i64 7)))⟩,
    ⟨some 119, none, .pick (.t 114) (.t 118) (.c (.g (.bool false)))⟩,
    ⟨some 120, none, .mov (.t 119)⟩,
    ⟨some 121, (some (120, true)), .load true 2 (.t 1)⟩,
    ⟨some 122, (some (120, true)), .call (.c (.g (.fn 40))) [(.t 121), (.c (.g (.int .i64 7)))]⟩,
    ⟨some 123, (some (120, true)), .bin .eql (.t 122) (.c (.g (.int .i64 1)))⟩,
    ⟨some 124, none, .pick (.t 120) (.t 123) (.c (.g (.bool false)))⟩,
    ⟨some 125, none, .mov (.t 124)⟩,
    ⟨some 126, (some (125, true)), .load true 2 (.t 1)⟩,
    ⟨some 127, (some (125, true)), .call (.c (.g (.fn 40))) [(.t 126), (.c (.g (.int .i64 8)))]⟩,
    ⟨some 128, (some (125, true)), .bin .eql (.t 127) (.c (.g (.int .i64 (-1))))⟩,
    ⟨some 129, none, .pick (.t 125) (.t 128) (.c (.g (.bool false)))⟩,
    ⟨some 130, none, .mov (.t 129)⟩,
    ⟨some 131, (some (130, true)), .load true 2 (.t 1)⟩,
    ⟨some 132, (some (130, true)), .call (.c (.g (.fn 39))) [(.t 131)]⟩,
    ⟨some 133, none, .pick (.t 130) (.t 132) (.c (.g (.bool false)))⟩,
    ⟨some 134, none, .mov (.t 133)⟩,
    ⟨some 135, (some (134, true)), .build [.g (.int .i64 0), .g (.int .i64 0)] [(0, 1, (.c (.g (.int .i64 1))))]⟩,
    ⟨some 136, (some (134, true)), .build [.g (.int .i64 0), .g (.int .i64 0)] [(0, 1, (.c (.g (.int .i64 1))))]⟩,
    ⟨some 137, (some (134, true)), .bslice 2 2 [.int .i64 0, .int .i64 0] [(0, 2, (.t 135)), (2, 2, (.t 136))]⟩,
    ⟨some 138, (some (134, true)), .build [.g (.nsl), .g (.nsl)] [(1, 1, (.t 137))]⟩,
    ⟨some 139, (some (134, true)), .call (.c (.g (.fn 39))) [(.t 138)]⟩,
    ⟨some 140, (some (134, true)), .un .not (.t 139)⟩,
    ⟨some 141, none, .pick (.t 134) (.t 140) (.c (.g (.bool false)))⟩,
    ⟨some 0, none, .mov (.t 141)⟩]) <|
 .ret⟩
def h32 : List (List Nat) := [[], [1], [1, 2], [1], [1, 2], [1, 2, 20], [1, 2], [1, 2], [1, 2, 3, 4], [1, 2, 3, 32], [1, 2, 3], [0], [1, 2], [1, 2], [1, 5, 6, 7], [1, 5, 6, 7, 9, 10], [1, 5, 6, 7, 9, 10, 12, 13], [1, 5, 6, 7, 9, 10, 12, 13, 15], [1, 5, 6, 7, 9, 10, 12, 13, 15, 16], [1, 5, 6, 7, 9, 10, 12, 13, 15, 16, 17], [0]]
theorem c32 : cFunc Try.prog 32 false h32 = some F32 := by kernel_rfl

def F33 : IFunc := ⟨3, 46, [.cell 6 true 9, .tmp 7, .tmp 8], false,
 .seq (.reg [1, 2, 3, 6] [⟨some 3, none, .box (.t 0)⟩,
    ⟨some 6, none, .alloc [.z (.int .i64 0), .z (.int .i64 0), .z (.int .i64 0), .z (.int .i64 0), .z (.int .i64 0), .z (.int .i64 0), .z (.bool false), .s 6, .s 8]⟩,
    ⟨some 7, none, .mov (.c (.g (.bool false)))⟩,
    ⟨some 8, none, .mov (.c (.g (.int .i64 0)))⟩]) <|
 .seq (.reg [1, 2, 3, 6, 9] [⟨some 12, none, .mov (.t 1)⟩,
    ⟨some 13, none, .mov (.t 2)⟩,
    ⟨some 14, none, .build [.g (.int .i64 0), .g (.int .i64 0)] [(0, 1, (.t 12)), (1, 1, (.t 13))]⟩,
    ⟨some 9, none, .alloc [.z (.int .i64 0), .z (.int .i64 0)]⟩,
    ⟨none, none, .store 2 (.t 9) (.t 14)⟩]) <|
 .seq (.seq (.reg [1, 2, 3, 6, 10] [⟨some 15, none, .faddr 0 (.t 3)⟩,
     ⟨some 16, none, .load false 1 (.t 15)⟩,
     ⟨some 17, none, .mkfn 60 [(.t 9)]⟩,
     ⟨some 18, none, .call (.c (.g (.fn 59))) [(.t 16), (.t 17)]⟩,
     ⟨some 10, none, .mov (.t 18)⟩]) <|
  .seq (.reg [1, 2, 3, 6, 10, 20] [⟨some 19, none, .mov (.t 10)⟩,
     ⟨some 20, none, .bin .geq (.t 19) (.c (.g (.int .i64 0)))⟩]) <|
  .cond [1, 2, 3, 6] (.t 20)
   (.seq (.reg [6, 7, 8] [⟨some 21, none, .faddr 0 (.t 3)⟩,
       ⟨some 22, none, .load false 1 (.t 21)⟩,
       ⟨some 23, none, .mov (.t 10)⟩,
       ⟨some 24, none, .iaddr 11 (.t 22) (.t 23)⟩,
       ⟨some 25, none, .faddr 2 (.t 24)⟩,
       ⟨some 26, none, .load true 9 (.t 25)⟩,
       ⟨none, none, .store 9 (.t 6) (.t 26)⟩,
       ⟨some 7, none, .mov (.c (.g (.bool true)))⟩,
       ⟨some 8, none, .mov (.c (.g (.int .i64 0)))⟩]) <|
    .ret)
   (.skip)) <|
 .seq (.seq (.reg [1, 3, 6, 31] [⟨some 27, none, .mov (.t 2)⟩,
     ⟨some 28, none, .load true 2 (.t 3)⟩,
     ⟨some 29, none, .mov (.t 1)⟩,
     ⟨some 30, none, .call (.c (.g (.fn 40))) [(.t 28), (.t 29)]⟩,
     ⟨some 31, none, .bin .leq (.t 27) (.t 30)⟩]) <|
  .cond [1, 3, 6] (.t 31)
   (.seq (.reg [6, 7, 8] [⟨some 32, none, .build [.g (.int .i64 0), .g (.int .i64 0), .g (.int .i64 0), .g (.int .i64 0), .g (.int .i64 0), .g (.int .i64 0), .g (.bool false), .g (.nsl), .g (.nsl)] []⟩,
       ⟨none, none, .store 9 (.t 6) (.t 32)⟩,
       ⟨some 7, none, .mov (.c (.g (.bool false)))⟩,
       ⟨some 8, none, .mov (.c (.g (.int .i64 7)))⟩]) <|
    .ret)
   (.skip)) <|
 .seq (.seq (.reg [1, 6, 11] [⟨some 33, none, .load true 2 (.t 3)⟩,
     ⟨some 34, none, .call (.c (.g (.fn 42))) [(.t 33)]⟩,
     ⟨some 11, none, .mov (.t 34)⟩]) <|
  .seq (.reg [6, 43] [⟨some 35, none, .mov (.t 11)⟩,
     ⟨some 36, none, .len (.t 35)⟩,
     ⟨some 37, none, .bin .geq (.t 36) (.c (.g (.int .i64 8)))⟩,
     ⟨some 38, none, .mov (.t 37)⟩,
     ⟨some 39, (some (38, true)), .mov (.t 11)⟩,
     ⟨some 40, (some (38, true)), .mov (.t 1)⟩,
     ⟨some 41, (some (38, true)), .call (.c (.g (.fn 62))) [(.t 39), (.t 40)]⟩,
     ⟨some 42, (some (38, true)), .un .not (.t 41)⟩,
     ⟨some 43, none, .pick (.t 38) (.t 42) (.c (.g (.bool false)))⟩]) <|
  .cond [6] (.t 43)
   (.seq (.reg [6, 7, 8] [⟨some 44, none, .build [.g (.int .i64 0), .g (.int .i64 0), .g (.int .i64 0), .g (.int .i64 0), .g (.int .i64 0), .g (.int .i64 0), .g (.bool false), .g (.nsl), .g (.nsl)] []⟩,
       ⟨none, none, .store 9 (.t 6) (.t 44)⟩,
       ⟨some 7, none, .mov (.c (.g (.bool false)))⟩,
       ⟨some 8, none, .mov (.c (.g (.int .i64 4)))⟩]) <|
    .ret)
   (.skip)) <|
 .seq (.reg [6, 7, 8] [⟨some 45, none, .build [.g (.int .i64 0), .g (.int .i64 0), .g (.int .i64 0), .g (.int .i64 0), .g (.int .i64 0), .g (.int .i64 0), .g (.bool false), .g (.nsl), .g (.nsl)] []⟩,
    ⟨none, none, .store 9 (.t 6) (.t 45)⟩,
    ⟨some 7, none, .mov (.c (.g (.bool false)))⟩,
    ⟨some 8, none, .mov (.c (.g (.int .i64 0)))⟩]) <|
 .ret⟩
def h33 : List (List Nat) := [[1, 2, 3, 6], [1, 2, 3, 6, 9], [1, 2, 3, 6, 10], [1, 2, 3, 6, 10, 20], [1, 2, 3, 6], [6, 7, 8], [1, 3, 6, 31], [1, 3, 6], [6, 7, 8], [1, 6, 11], [6, 43], [6], [6, 7, 8], [6, 7, 8]]
theorem c33 : cFunc Try.prog 33 false h33 = some F33 := by kernel_rfl

def L34_0 : IC :=
 .seq (.seq (.reg [1, 2, 3, 6, 9, 15] [⟨some 11, none, .mov (.t 9)⟩,
     ⟨some 12, none, .faddr 0 (.t 3)⟩,
     ⟨some 13, none, .load false 1 (.t 12)⟩,
     ⟨some 14, none, .len (.t 13)⟩,
     ⟨some 15, none, .bin .lss (.t 11) (.t 14)⟩]) <|
  .cond [1, 2, 3, 6, 9] (.t 15)
   (.skip)
   (.exit 0)) <|
 .seq (.block [1, 2, 3, 6, 9] 1 <|
  .seq (.reg [1, 2, 3, 6, 9, 35] [⟨some 18, none, .faddr 0 (.t 3)⟩,
     ⟨some 19, none, .load false 1 (.t 18)⟩,
     ⟨some 20, none, .mov (.t 9)⟩,
     ⟨some 21, none, .iaddr 11 (.t 19) (.t 20)⟩,
     ⟨some 22, none, .faddr 0 (.t 21)⟩,
     ⟨some 23, none, .load false 1 (.t 22)⟩,
     ⟨some 24, none, .mov (.t 1)⟩,
     ⟨some 25, none, .bin .eql (.t 23) (.t 24)⟩,
     ⟨some 26, none, .mov (.t 25)⟩,
     ⟨some 27, (some (26, true)), .faddr 0 (.t 3)⟩,
     ⟨some 28, (some (26, true)), .load false 1 (.t 27)⟩,
     ⟨some 29, (some (26, true)), .mov (.t 9)⟩,
     ⟨some 30, (some (26, true)), .iaddr 11 (.t 28) (.t 29)⟩,
     ⟨some 31, (some (26, true)), .faddr 1 (.t 30)⟩,
     ⟨some 32, (some (26, true)), .load false 1 (.t 31)⟩,
     ⟨some 33, (some (26, true)), .mov (.t 2)⟩,
     ⟨some 34, (some (26, true)), .bin .eql (.t 32) (.t 33)⟩,
     ⟨some 35, none, .pick (.t 26) (.t 34) (.c (.g (.bool false)))⟩]) <|
  .cond [1, 2, 3, 6, 9] (.t 35)
   (.seq (.reg [6, 7, 8] [⟨some 36, none, .faddr 0 (.t 3)⟩,
       ⟨some 37, none, .load false 1 (.t 36)⟩,
       ⟨some 38, none, .mov (.t 9)⟩,
       ⟨some 39, none, .iaddr 11 (.t 37) (.t 38)⟩,
       ⟨some 40, none, .faddr 2 (.t 39)⟩,
       ⟨some 41, none, .load true 9 (.t 40)⟩,
       ⟨none, none, .store 9 (.t 6) (.t 41)⟩,
       ⟨some 7, none, .mov (.c (.g (.bool true)))⟩,
       ⟨some 8, none, .mov (.c (.g (.int .i64 0)))⟩]) <|
    .ret)
   (.skip)) <|
 .reg [1, 2, 3, 6, 9] [⟨some 16, none, .mov (.t 9)⟩,
   ⟨some 17, none, .bin .add (.t 16) (.c (.g (.int .i64 1)))⟩,
   ⟨some 9, none, .mov (.t 17)⟩]
def F34 : IFunc := ⟨3, 64, [.cell 6 true 9, .tmp 7, .tmp 8], false,
 .seq (.reg [1, 2, 3, 6] [⟨some 3, none, .box (.t 0)⟩,
    ⟨some 6, none, .alloc [.z (.int .i64 0), .z (.int .i64 0), .z (.int .i64 0), .z (.int .i64 0), .z (.int .i64 0), .z (.int .i64 0), .z (.bool false), .s 6, .s 8]⟩,
    ⟨some 7, none, .mov (.c (.g (.bool false)))⟩,
    ⟨some 8, none, .mov (.c (.g (.int .i64 0)))⟩]) <|
 .seq (.seq (.reg [1, 2, 3, 6, 9] [⟨some 9, none, .mov (.c (.g (.int .i64 0)))⟩]) <|
  .block [1, 2, 3, 6] 0 <|
  .loop [1, 2, 3, 6, 9] [] L34_0) <|
 .seq (.seq (.reg [1, 3, 6, 46] [⟨some 42, none, .mov (.t 2)⟩,
     ⟨some 43, none, .load true 2 (.t 3)⟩,
     ⟨some 44, none, .mov (.t 1)⟩,
     ⟨some 45, none, .call (.c (.g (.fn 63))) [(.t 43), (.t 44)]⟩,
     ⟨some 46, none, .bin .leq (.t 42) (.t 45)⟩]) <|
  .cond [1, 3, 6] (.t 46)
   (.seq (.reg [6, 7, 8] [⟨some 47, none, .build [.g (.int .i64 0), .g (.int .i64 0), .g (.int .i64 0), .g (.int .i64 0), .g (.int .i64 0), .g (.int .i64 0), .g (.bool false), .g (.nsl), .g (.nsl)] []⟩,
       ⟨none, none, .store 9 (.t 6) (.t 47)⟩,
       ⟨some 7, none, .mov (.c (.g (.bool false)))⟩,
       ⟨some 8, none, .mov (.c (.g (.int .i64 7)))⟩]) <|
    .ret)
   (.skip)) <|
 .seq (.reg [1, 6, 10] [⟨some 48, none, .load true 2 (.t 3)⟩,
    ⟨some 49, none, .call (.c (.g (.fn 64))) [(.t 48)]⟩,
    ⟨some 10, none, .mov (.t 49)⟩]) <|
 .seq (.seq (.reg [6, 61] [⟨some 50, none, .mov (.t 10)⟩,
     ⟨some 51, none, .len (.t 50)⟩,
     ⟨some 52, none, .bin .geq (.t 51) (.c (.g (.int .i64 8)))⟩,
     ⟨some 53, none, .mov (.t 52)⟩,
     ⟨some 54, (some (53, true)), .mov (.t 10)⟩,
     ⟨some 55, (some (53, true)), .mov (.t 1)⟩,
     ⟨some 56, (some (53, true)), .call (.c (.g (.fn 65))) [(.t 54), (.t 55), (.c (.g (.bool true)))]⟩,
     ⟨some 57, (some (53, true)), .len (.t 56)⟩,
     ⟨some 58, (some (53, true)), .mov (.t 10)⟩,
     ⟨some 59, (some (53, true)), .len (.t 58)⟩,
     ⟨some 60, (some (53, true)), .bin .gtr (.t 57) (.t 59)⟩,
     ⟨some 61, none, .pick (.t 53) (.t 60) (.c (.g (.bool false)))⟩]) <|
  .cond [6] (.t 61)
   (.seq (.reg [6, 7, 8] [⟨some 62, none, .build [.g (.int .i64 0), .g (.int .i64 0), .g (.int .i64 0), .g (.int .i64 0), .g (.int .i64 0), .g (.int .i64 0), .g (.bool false), .g (.nsl), .g (.nsl)] []⟩,
       ⟨none, none, .store 9 (.t 6) (.t 62)⟩,
       ⟨some 7, none, .mov (.c (.g (.bool false)))⟩,
       ⟨some 8, none, .mov (.c (.g (.int .i64 4)))⟩]) <|
    .ret)
   (.skip)) <|
 .seq (.reg [6, 7, 8] [⟨some 63, none, .build [.g (.int .i64 0), .g (.int .i64 0), .g (.int .i64 0), .g (.int .i64 0), .g (.int .i64 0), .g (.int .i64 0), .g (.bool false), .g (.nsl), .g (.nsl)] []⟩,
    ⟨none, none, .store 9 (.t 6) (.t 63)⟩,
    ⟨some 7, none, .mov (.c (.g (.bool false)))⟩,
    ⟨some 8, none, .mov (.c (.g (.int .i64 0)))⟩]) <|
 .ret⟩
def h34 : List (List Nat) := [[1, 2, 3, 6], [1, 2, 3, 6, 9], [1, 2, 3, 6], [1, 2, 3, 6, 9], [1, 2, 3, 6, 9, 15], [1, 2, 3, 6, 9], [1, 2, 3, 6, 9], [1, 2, 3, 6, 9, 35], [1, 2, 3, 6, 9], [6, 7, 8], [1, 2, 3, 6, 9], [1, 3, 6, 46], [1, 3, 6], [6, 7, 8], [1, 6, 10], [6, 61], [6], [6, 7, 8], [6, 7, 8]]
theorem c34 : cFunc Try.prog 34 false h34 = some F34 := by kernel_rfl

def F35 : IFunc := ⟨4, 68, [.cell 8 true 2, .tmp 9], false,
 .seq (.reg [2, 4, 5, 7, 8] [⟨some 4, none, .box (.t 0)⟩,
    ⟨some 5, none, .box (.t 1)⟩,
    ⟨some 7, none, .box (.t 3)⟩,
    ⟨some 8, none, .alloc [.s 11, .s 2]⟩,
    ⟨some 9, none, .mov (.c (.g (.int .i64 0)))⟩]) <|
 .seq (.reg [2, 4, 5, 7, 8, 11, 12] [⟨some 16, none, .load true 2 (.t 4)⟩,
    ⟨some 17, none, .load false 1 (.t 5)⟩,
    ⟨some 18, none, .mov (.t 2)⟩,
    ⟨some 19, none, .call (.c (.g (.fn 33))) [(.t 16), (.t 17), (.t 18)]⟩,
    ⟨some 15, none, .mov (.t 19)⟩,
    ⟨some 20, none, .ext 0 (.t 15)⟩,
    ⟨some 21, none, .ext 1 (.t 15)⟩,
    ⟨some 22, none, .ext 2 (.t 15)⟩,
    ⟨some 10, none, .alloc [.z (.int .i64 0), .z (.int .i64 0), .z (.int .i64 0), .z (.int .i64 0), .z (.int .i64 0), .z (.int .i64 0), .z (.bool false), .s 6, .s 8]⟩,
    ⟨none, none, .store 9 (.t 10) (.t 20)⟩,
    ⟨some 11, none, .mov (.t 21)⟩,
    ⟨some 12, none, .mov (.t 22)⟩]) <|
 .seq (.block [2, 4, 5, 7, 8] 0 <|
  .seq (.reg [2, 4, 5, 7, 8, 12, 23] [⟨some 24, none, .mov (.t 11)⟩,
     ⟨some 23, none, .mov (.t 24)⟩]) <|
  .cond [2, 4, 5, 7, 8] (.t 23)
   (.seq (.reg [8, 9] [⟨some 25, none, .load true 2 (.t 4)⟩,
       ⟨none, none, .store 2 (.t 8) (.t 25)⟩,
       ⟨some 9, none, .mov (.c (.g (.int .i64 11)))⟩]) <|
    .ret)
   (.seq (.reg [2, 4, 5, 7, 8, 12, 26] [⟨some 27, none, .mov (.t 12)⟩,
       ⟨some 28, none, .bin .neq (.t 27) (.c (.g (.int .i64 0)))⟩,
       ⟨some 26, none, .mov (.t 28)⟩]) <|
    .cond [2, 4, 5, 7, 8] (.t 26)
     (.seq (.reg [8, 9] [⟨some 29, none, .load true 2 (.t 4)⟩,
         ⟨some 30, none, .mov (.t 12)⟩,
         ⟨none, none, .store 2 (.t 8) (.t 29)⟩,
         ⟨some 9, none, .mov (.t 30)⟩]) <|
      .ret)
     (.skip))) <|
 .seq (.reg [4, 5, 8] [⟨some 31, none, .faddr 0 (.t 4)⟩,
    ⟨some 32, none, .load false 1 (.t 31)⟩,
    ⟨some 33, none, .load false 1 (.t 5)⟩,
    ⟨some 34, none, .mov (.t 2)⟩,
    ⟨some 35, none, .load true 9 (.t 7)⟩,
    ⟨some 36, none, .build [.g (.int .i64 0), .g (.int .i64 0), .g (.int .i64 0), .g (.int .i64 0), .g (.int .i64 0), .g (.int .i64 0), .g (.int .i64 0), .g (.int .i64 0), .g (.bool false), .g (.nsl), .g (.nsl)] [(0, 1, (.t 33)), (1, 1, (.t 34)), (2, 9, (.t 35))]⟩,
    ⟨some 37, none, .bslice 11 1 [.int .i64 0, .int .i64 0, .int .i64 0, .int .i64 0, .int .i64 0, .int .i64 0, .int .i64 0, .int .i64 0, .bool false, .nsl, .nsl] [(0, 11, (.t 36))]⟩,
    ⟨some 38, none, .bslice 1 2 [.nsl] [(0, 1, (.t 32)), (1, 1, (.t 37))]⟩,
    ⟨some 39, none, .call (.c (.g (.fn 66))) [(.t 38)]⟩,
    ⟨some 40, none, .faddr 0 (.t 4)⟩,
    ⟨none, none, .store 1 (.t 40) (.t 39)⟩]) <|
 .seq (.reg [4, 5, 8, 13] [⟨some 41, none, .load true 2 (.t 4)⟩,
    ⟨some 42, none, .load false 1 (.t 5)⟩,
    ⟨some 43, none, .call (.c (.g (.fn 41))) [(.t 41), (.t 42)]⟩,
    ⟨some 13, none, .alloc [.s 1]⟩,
    ⟨none, none, .store 1 (.t 13) (.t 43)⟩]) <|
 .seq (.seq (.reg [4, 5, 8, 13, 46] [⟨some 44, none, .load false 1 (.t 13)⟩,
     ⟨some 45, none, .len (.t 44)⟩,
     ⟨some 46, none, .bin .leq (.t 45) (.c (.g (.int .i64 4)))⟩]) <|
  .cond [4, 5, 8, 13] (.t 46)
   (.seq (.reg [8, 9] [⟨some 47, none, .load true 2 (.t 4)⟩,
       ⟨none, none, .store 2 (.t 8) (.t 47)⟩,
       ⟨some 9, none, .mov (.c (.g (.int .i64 0)))⟩]) <|
    .ret)
   (.skip)) <|
 .seq (.reg [4, 5, 8, 13, 14] [⟨some 48, none, .faddr 0 (.t 4)⟩,
    ⟨some 49, none, .load false 1 (.t 48)⟩,
    ⟨some 50, none, .mkfn 67 [(.t 5), (.t 13)]⟩,
    ⟨some 51, none, .call (.c (.g (.fn 59))) [(.t 49), (.t 50)]⟩,
    ⟨some 14, none, .mov (.t 51)⟩]) <|
 .seq (.reg [4, 5, 8, 13] [⟨some 52, none, .faddr 0 (.t 4)⟩,
    ⟨some 53, none, .load false 1 (.t 52)⟩,
    ⟨some 54, none, .mov (.t 14)⟩,
    ⟨some 55, none, .mov (.t 14)⟩,
    ⟨some 56, none, .bin .add (.t 55) (.c (.g (.int .i64 1)))⟩,
    ⟨some 57, none, .call (.c (.g (.fn 68))) [(.t 53), (.t 54), (.t 56)]⟩,
    ⟨some 58, none, .faddr 0 (.t 4)⟩,
    ⟨none, none, .store 1 (.t 58) (.t 57)⟩]) <|
 .seq (.drw [4, 8] 0 <|
  .take ⟨some 59, none, .faddr 1 (.t 4)⟩ <|
  .take ⟨some 60, none, .load false 1 (.t 59)⟩ <|
  .take ⟨some 61, none, .load false 1 (.t 5)⟩ <|
  .take ⟨some 62, none, .load false 1 (.t 13)⟩ <|
  .take ⟨some 63, none, .iaddr 1 (.t 62) (.c (.g (.int .i64 0)))⟩ <|
  .take ⟨some 64, none, .load false 1 (.t 63)⟩ <|
  .one ⟨some 65, none, .call (.c (.g (.fn 69))) [(.t 60), (.t 61), (.t 64)]⟩ <|
  .free <|
  .take ⟨some 66, none, .faddr 1 (.t 4)⟩ <|
  .one ⟨none, none, .store 1 (.t 66) (.t 65)⟩ <|
  .leaf) <|
 .seq (.reg [8, 9] [⟨some 67, none, .load true 2 (.t 4)⟩,
    ⟨none, none, .store 2 (.t 8) (.t 67)⟩,
    ⟨some 9, none, .mov (.c (.g (.int .i64 0)))⟩]) <|
 .ret⟩
def h35 : List (List Nat) := [[2, 4, 5, 7, 8], [2, 4, 5, 7, 8, 11, 12], [2, 4, 5, 7, 8], [2, 4, 5, 7, 8, 12, 23], [2, 4, 5, 7, 8], [8, 9], [2, 4, 5, 7, 8, 12, 26], [2, 4, 5, 7, 8], [8, 9], [4, 5, 8], [4, 5, 8, 13], [4, 5, 8, 13, 46], [4, 5, 8, 13], [8, 9], [4, 5, 8, 13, 14], [4, 5, 8, 13], [4, 8], [], [8, 9]]
theorem c35 : cFunc Try.prog 35 false h35 = some F35 := by kernel_rfl

def L36_0 : IC :=
 .seq (.seq (.reg [1, 8, 13, 14, 15, 16, 17, 66] [⟨some 62, none, .mov (.t 17)⟩,
     ⟨some 63, none, .faddr 0 (.t 13)⟩,
     ⟨some 64, none, .load false 1 (.t 63)⟩,
     ⟨some 65, none, .len (.t 64)⟩,
     ⟨some 66, none, .bin .lss (.t 62) (.t 65)⟩]) <|
  .cond [1, 8, 13, 14, 15, 16, 17] (.t 66)
   (.skip)
   (.exit 0)) <|
 .seq (.block [1, 8, 13, 14, 15, 16, 17] 1 <|
  .seq (.seq (.drw [1, 8, 13, 14, 15, 16, 17, 92] 0 <|
    .take ⟨some 69, none, .mov (.t 16)⟩ <|
    .take ⟨some 70, none, .un .not (.t 69)⟩ <|
    .take ⟨some 71, none, .mov (.t 70)⟩ <|
    .take ⟨some 72, (some (71, true)), .faddr 0 (.t 13)⟩ <|
    .take ⟨some 73, (some (71, true)), .load false 1 (.t 72)⟩ <|
    .take ⟨some 74, (some (71, true)), .mov (.t 17)⟩ <|
    .take ⟨some 75, (some (71, true)), .iaddr 11 (.t 73) (.t 74)⟩ <|
    .take ⟨some 76, (some (71, true)), .faddr 0 (.t 75)⟩ <|
    .take ⟨some 77, (some (71, true)), .load false 1 (.t 76)⟩ <|
    .take ⟨some 78, (some (71, true)), .mov (.t 1)⟩ <|
    .take ⟨some 79, (some (71, true)), .bin .eql (.t 77) (.t 78)⟩ <|
    .take ⟨some 80, none, .pick (.t 71) (.t 79) (.c (.g (.bool false)))⟩ <|
    .take ⟨some 81, none, .mov (.t 80)⟩ <|
    .take ⟨some 82, (some (81, true)), .faddr 0 (.t 13)⟩ <|
    .take ⟨some 83, (some (81, true)), .load false 1 (.t 82)⟩ <|
    .take ⟨some 84, (some (81, true)), .mov (.t 17)⟩ <|
    .take ⟨some 85, (some (81, true)), .iaddr 11 (.t 83) (.t 84)⟩ <|
    .take ⟨some 86, (some (81, true)), .faddr 1 (.t 85)⟩ <|
    .take ⟨some 87, (some (81, true)), .load false 1 (.t 86)⟩ <|
    .take ⟨some 88, (some (81, true)), .mov (.t 14)⟩ <|
    .take ⟨some 89, (some (81, true)), .iaddr 1 (.t 88) (.c (.g (.int .i64 0)))⟩ <|
    .take ⟨some 90, (some (81, true)), .load false 1 (.t 89)⟩ <|
    .take ⟨some 91, (some (81, true)), .bin .eql (.t 87) (.t 90)⟩ <|
    .take ⟨some 92, none, .pick (.t 81) (.t 91) (.c (.g (.bool false)))⟩ <|
    .leaf) <|
   .cond [1, 8, 13, 14, 15, 16, 17] (.t 92)
    (.seq (.reg [1, 8, 13, 14, 15, 16, 17] [⟨some 16, none, .mov (.c (.g (.bool true)))⟩]) <|
     .exit 1)
    (.skip)) <|
  .reg [1, 8, 13, 14, 15, 16, 17] [⟨some 93, none, .mov (.t 15)⟩,
    ⟨some 94, none, .faddr 0 (.t 13)⟩,
    ⟨some 95, none, .load false 1 (.t 94)⟩,
    ⟨some 96, none, .mov (.t 17)⟩,
    ⟨some 97, none, .iaddr 11 (.t 95) (.t 96)⟩,
    ⟨some 98, none, .load true 11 (.t 97)⟩,
    ⟨some 99, none, .bslice 11 1 [.int .i64 0, .int .i64 0, .int .i64 0, .int .i64 0, .int .i64 0, .int .i64 0, .int .i64 0, .int .i64 0, .bool false, .nsl, .nsl] [(0, 11, (.t 98))]⟩,
    ⟨some 100, none, .app 11 120 (.t 93) (.t 99)⟩,
    ⟨some 15, none, .mov (.t 100)⟩]) <|
 .reg [1, 8, 13, 14, 15, 16, 17] [⟨some 67, none, .mov (.t 17)⟩,
   ⟨some 68, none, .bin .add (.t 67) (.c (.g (.int .i64 1)))⟩,
   ⟨some 17, none, .mov (.t 68)⟩]
def L36_1 : IC :=
 .seq (.seq (.reg [1, 8, 13, 14, 18, 107] [⟨some 103, none, .mov (.t 18)⟩,
     ⟨some 104, none, .faddr 1 (.t 13)⟩,
     ⟨some 105, none, .load false 1 (.t 104)⟩,
     ⟨some 106, none, .len (.t 105)⟩,
     ⟨some 107, none, .bin .lss (.t 103) (.t 106)⟩]) <|
  .cond [1, 8, 13, 14, 18] (.t 107)
   (.skip)
   (.exit 2)) <|
 .seq (.block [1, 8, 13, 14, 18] 3 <|
  .seq (.reg [1, 8, 13, 14, 18, 117] [⟨some 110, none, .faddr 1 (.t 13)⟩,
     ⟨some 111, none, .load false 1 (.t 110)⟩,
     ⟨some 112, none, .mov (.t 18)⟩,
     ⟨some 113, none, .iaddr 2 (.t 111) (.t 112)⟩,
     ⟨some 114, none, .faddr 0 (.t 113)⟩,
     ⟨some 115, none, .load false 1 (.t 114)⟩,
     ⟨some 116, none, .mov (.t 1)⟩,
     ⟨some 117, none, .bin .eql (.t 115) (.t 116)⟩]) <|
  .cond [1, 8, 13, 14, 18] (.t 117)
   (.seq (.drw [8, 13] 0 <|
     .take ⟨some 118, none, .faddr 1 (.t 13)⟩ <|
     .take ⟨some 119, none, .load false 1 (.t 118)⟩ <|
     .take ⟨some 120, none, .mov (.t 18)⟩ <|
     .take ⟨some 121, none, .faddr 1 (.t 13)⟩ <|
     .take ⟨some 122, none, .load false 1 (.t 121)⟩ <|
     .take ⟨some 123, none, .mov (.t 18)⟩ <|
     .take ⟨some 124, none, .iaddr 2 (.t 122) (.t 123)⟩ <|
     .take ⟨some 125, none, .faddr 1 (.t 124)⟩ <|
     .take ⟨some 126, none, .load false 1 (.t 125)⟩ <|
     .take ⟨some 127, none, .mov (.t 14)⟩ <|
     .take ⟨some 128, none, .iaddr 1 (.t 127) (.c (.g (.int .i64 0)))⟩ <|
     .take ⟨some 129, none, .load false 1 (.t 128)⟩ <|
     .take ⟨some 130, none, .mx (.t 126) [(.t 129)]⟩ <|
     .free <|
     .take ⟨some 131, none, .iaddr 2 (.t 119) (.t 120)⟩ <|
     .take ⟨some 132, none, .faddr 1 (.t 131)⟩ <|
     .one ⟨none, none, .store 1 (.t 132) (.t 130)⟩ <|
     .leaf) <|
    .seq (.reg [8, 9] [⟨some 133, none, .load true 2 (.t 13)⟩,
       ⟨none, none, .store 2 (.t 8) (.t 133)⟩,
       ⟨some 9, none, .mov (.c (.g (.int .i64 0)))⟩]) <|
    .ret)
   (.skip)) <|
 .reg [1, 8, 13, 14, 18] [⟨some 108, none, .mov (.t 18)⟩,
   ⟨some 109, none, .bin .add (.t 108) (.c (.g (.int .i64 1)))⟩,
   ⟨some 18, none, .mov (.t 109)⟩]
def F36 : IFunc := ⟨4, 145, [.cell 8 true 2, .tmp 9], false,
 .seq (.reg [1, 2, 4, 7, 8] [⟨some 4, none, .box (.t 0)⟩,
    ⟨some 7, none, .box (.t 3)⟩,
    ⟨some 8, none, .alloc [.s 11, .s 2]⟩,
    ⟨some 9, none, .mov (.c (.g (.int .i64 0)))⟩]) <|
 .seq (.reg [1, 2, 4, 7, 8, 11, 12] [⟨some 20, none, .load true 2 (.t 4)⟩,
    ⟨some 21, none, .mov (.t 1)⟩,
    ⟨some 22, none, .mov (.t 2)⟩,
    ⟨some 23, none, .call (.c (.g (.fn 34))) [(.t 20), (.t 21), (.t 22)]⟩,
    ⟨some 19, none, .mov (.t 23)⟩,
    ⟨some 24, none, .ext 0 (.t 19)⟩,
    ⟨some 25, none, .ext 1 (.t 19)⟩,
    ⟨some 26, none, .ext 2 (.t 19)⟩,
    ⟨some 10, none, .alloc [.z (.int .i64 0), .z (.int .i64 0), .z (.int .i64 0), .z (.int .i64 0), .z (.int .i64 0), .z (.int .i64 0), .z (.bool false), .s 6, .s 8]⟩,
    ⟨none, none, .store 9 (.t 10) (.t 24)⟩,
    ⟨some 11, none, .mov (.t 25)⟩,
    ⟨some 12, none, .mov (.t 26)⟩]) <|
 .seq (.seq (.reg [1, 2, 4, 7, 8, 12, 27] [⟨some 27, none, .mov (.t 11)⟩]) <|
  .cond [1, 2, 4, 7, 8, 12] (.t 27)
   (.seq (.reg [8, 9] [⟨some 28, none, .load true 2 (.t 4)⟩,
       ⟨none, none, .store 2 (.t 8) (.t 28)⟩,
       ⟨some 9, none, .mov (.c (.g (.int .i64 11)))⟩]) <|
    .ret)
   (.skip)) <|
 .seq (.seq (.reg [1, 2, 4, 7, 8, 12, 30] [⟨some 29, none, .mov (.t 12)⟩,
     ⟨some 30, none, .bin .neq (.t 29) (.c (.g (.int .i64 0)))⟩]) <|
  .cond [1, 2, 4, 7, 8] (.t 30)
   (.seq (.reg [8, 9] [⟨some 31, none, .load true 2 (.t 4)⟩,
       ⟨some 32, none, .mov (.t 12)⟩,
       ⟨none, none, .store 2 (.t 8) (.t 31)⟩,
       ⟨some 9, none, .mov (.t 32)⟩]) <|
    .ret)
   (.skip)) <|
 .seq (.reg [1, 2, 4, 7, 8, 13] [⟨some 33, none, .build [.g (.nsl), .g (.nsl)] []⟩,
    ⟨some 13, none, .alloc [.s 11, .s 2]⟩,
    ⟨none, none, .store 2 (.t 13) (.t 33)⟩]) <|
 .seq (.reg [1, 2, 4, 7, 8, 13] [⟨some 34, none, .faddr 0 (.t 13)⟩,
    ⟨some 35, none, .load false 1 (.t 34)⟩,
    ⟨some 36, none, .faddr 0 (.t 4)⟩,
    ⟨some 37, none, .load false 1 (.t 36)⟩,
    ⟨some 38, none, .app 11 120 (.t 35) (.t 37)⟩,
    ⟨some 39, none, .faddr 0 (.t 13)⟩,
    ⟨none, none, .store 1 (.t 39) (.t 38)⟩]) <|
 .seq (.reg [1, 4, 8, 13] [⟨some 40, none, .faddr 0 (.t 13)⟩,
    ⟨some 41, none, .load false 1 (.t 40)⟩,
    ⟨some 42, none, .mov (.t 1)⟩,
    ⟨some 43, none, .mov (.t 2)⟩,
    ⟨some 44, none, .load true 9 (.t 7)⟩,
    ⟨some 45, none, .build [.g (.int .i64 0), .g (.int .i64 0), .g (.int .i64 0), .g (.int .i64 0), .g (.int .i64 0), .g (.int .i64 0), .g (.int .i64 0), .g (.int .i64 0), .g (.bool false), .g (.nsl), .g (.nsl)] [(0, 1, (.t 42)), (1, 1, (.t 43)), (2, 9, (.t 44))]⟩,
    ⟨some 46, none, .bslice 11 1 [.int .i64 0, .int .i64 0, .int .i64 0, .int .i64 0, .int .i64 0, .int .i64 0, .int .i64 0, .int .i64 0, .bool false, .nsl, .nsl] [(0, 11, (.t 45))]⟩,
    ⟨some 47, none, .app 11 120 (.t 41) (.t 46)⟩,
    ⟨some 48, none, .faddr 0 (.t 13)⟩,
    ⟨none, none, .store 1 (.t 48) (.t 47)⟩]) <|
 .seq (.reg [1, 8, 13] [⟨some 49, none, .faddr 1 (.t 13)⟩,
    ⟨some 50, none, .load false 1 (.t 49)⟩,
    ⟨some 51, none, .faddr 1 (.t 4)⟩,
    ⟨some 52, none, .load false 1 (.t 51)⟩,
    ⟨some 53, none, .app 2 16 (.t 50) (.t 52)⟩,
    ⟨some 54, none, .faddr 1 (.t 13)⟩,
    ⟨none, none, .store 1 (.t 54) (.t 53)⟩]) <|
 .seq (.reg [1, 8, 13, 14] [⟨some 55, none, .load true 2 (.t 13)⟩,
    ⟨some 56, none, .mov (.t 1)⟩,
    ⟨some 57, none, .call (.c (.g (.fn 70))) [(.t 55), (.t 56)]⟩,
    ⟨some 14, none, .mov (.t 57)⟩]) <|
 .seq (.seq (.reg [1, 8, 13, 14, 60] [⟨some 58, none, .mov (.t 14)⟩,
     ⟨some 59, none, .len (.t 58)⟩,
     ⟨some 60, none, .bin .leq (.t 59) (.c (.g (.int .i64 4)))⟩]) <|
  .cond [1, 8, 13, 14] (.t 60)
   (.seq (.reg [8, 9] [⟨some 61, none, .load true 2 (.t 13)⟩,
       ⟨none, none, .store 2 (.t 8) (.t 61)⟩,
       ⟨some 9, none, .mov (.c (.g (.int .i64 0)))⟩]) <|
    .ret)
   (.skip)) <|
 .seq (.reg [1, 8, 13, 14, 15] [⟨some 15, none, .nres 11⟩]) <|
 .seq (.reg [1, 8, 13, 14, 15, 16] [⟨some 16, none, .mov (.c (.g (.bool false)))⟩]) <|
 .seq (.seq (.reg [1, 8, 13, 14, 15, 16, 17] [⟨some 17, none, .mov (.c (.g (.int .i64 0)))⟩]) <|
  .block [1, 8, 13, 14, 15] 0 <|
  .loop [1, 8, 13, 14, 15, 16, 17] [] L36_0) <|
 .seq (.reg [1, 8, 13, 14] [⟨some 101, none, .mov (.t 15)⟩,
    ⟨some 102, none, .faddr 0 (.t 13)⟩,
    ⟨none, none, .store 1 (.t 102) (.t 101)⟩]) <|
 .seq (.seq (.reg [1, 8, 13, 14, 18] [⟨some 18, none, .mov (.c (.g (.int .i64 0)))⟩]) <|
  .block [1, 8, 13, 14] 2 <|
  .loop [1, 8, 13, 14, 18] [] L36_1) <|
 .seq (.drw [8, 13] 0 <|
  .take ⟨some 134, none, .faddr 1 (.t 13)⟩ <|
  .take ⟨some 135, none, .load false 1 (.t 134)⟩ <|
  .take ⟨some 136, none, .mov (.t 1)⟩ <|
  .take ⟨some 137, none, .mov (.t 14)⟩ <|
  .take ⟨some 138, none, .iaddr 1 (.t 137) (.c (.g (.int .i64 0)))⟩ <|
  .take ⟨some 139, none, .load false 1 (.t 138)⟩ <|
  .take ⟨some 140, none, .build [.g (.int .i64 0), .g (.int .i64 0)] [(0, 1, (.t 136)), (1, 1, (.t 139))]⟩ <|
  .one ⟨some 141, none, .bslice 2 1 [.int .i64 0, .int .i64 0] [(0, 2, (.t 140))]⟩ <|
  .one ⟨some 142, none, .app 2 16 (.t 135) (.t 141)⟩ <|
  .free <|
  .take ⟨some 143, none, .faddr 1 (.t 13)⟩ <|
  .one ⟨none, none, .store 1 (.t 143) (.t 142)⟩ <|
  .leaf) <|
 .seq (.reg [8, 9] [⟨some 144, none, .load true 2 (.t 13)⟩,
    ⟨none, none, .store 2 (.t 8) (.t 144)⟩,
    ⟨some 9, none, .mov (.c (.g (.int .i64 0)))⟩]) <|
 .ret⟩
def h36 : List (List Nat) := [[1, 2, 4, 7, 8], [1, 2, 4, 7, 8, 11, 12], [1, 2, 4, 7, 8, 12, 27], [1, 2, 4, 7, 8, 12], [8, 9], [1, 2, 4, 7, 8, 12, 30], [1, 2, 4, 7, 8], [8, 9], [1, 2, 4, 7, 8, 13], [1, 2, 4, 7, 8, 13], [1, 4, 8, 13], [1, 8, 13], [1, 8, 13, 14], [1, 8, 13, 14, 60], [1, 8, 13, 14], [8, 9], [1, 8, 13, 14, 15], [1, 8, 13, 14, 15, 16], [1, 8, 13, 14, 15, 16, 17], [1, 8, 13, 14, 15], [1, 8, 13, 14, 15, 16, 17], [1, 8, 13, 14, 15, 16, 17, 66], [1, 8, 13, 14, 15, 16, 17], [1, 8, 13, 14, 15, 16, 17], [1, 8, 13, 14, 15, 16, 17, 92], [], [1, 8, 13, 14, 15, 16, 17], [1, 8, 13, 14, 15, 16, 17], [1, 8, 13, 14, 15, 16, 17], [1, 8, 13, 14, 15, 16, 17], [1, 8, 13, 14], [1, 8, 13, 14, 18], [1, 8, 13, 14], [1, 8, 13, 14, 18], [1, 8, 13, 14, 18, 107], [1, 8, 13, 14, 18], [1, 8, 13, 14, 18], [1, 8, 13, 14, 18, 117], [1, 8, 13, 14, 18], [8, 13], [], [8, 9], [1, 8, 13, 14, 18], [8, 13], [], [8, 9]]
theorem c36 : cFunc Try.prog 36 false h36 = some F36 := by kernel_rfl

def F37 : IFunc := ⟨2, 66, [.tmp 4], false,
 .seq (.reg [2, 3] [⟨some 2, none, .box (.t 0)⟩,
    ⟨some 3, none, .box (.t 1)⟩,
    ⟨some 4, none, .mov (.c (.g (.bool false)))⟩]) <|
 .seq (.reg [4] [⟨some 5, none, .faddr 0 (.t 2)⟩,
    ⟨some 6, none, .load false 1 (.t 5)⟩,
    ⟨some 7, none, .faddr 0 (.t 3)⟩,
    ⟨some 8, none, .load false 1 (.t 7)⟩,
    ⟨some 9, none, .bin .eql (.t 6) (.t 8)⟩,
    ⟨some 10, none, .mov (.t 9)⟩,
    ⟨some 11, (some (10, true)), .faddr 1 (.t 2)⟩,
    ⟨some 12, (some (10, true)), .load false 1 (.t 11)⟩,
    ⟨some 13, (some (10, true)), .faddr 1 (.t 3)⟩,
    ⟨some 14, (some (10, true)), .load false 1 (.t 13)⟩,
    ⟨some 15, (some (10, true)), .bin .eql (.t 12) (.t 14)⟩,
    ⟨some 16, none, .pick (.t 10) (.t 15) (.c (.g (.bool false)))⟩,
    ⟨some 17, none, .mov (.t 16)⟩,
    ⟨some 18, (some (17, true)), .faddr 2 (.t 2)⟩,
    ⟨some 19, (some (17, true)), .load false 1 (.t 18)⟩,
    ⟨some 20, (some (17, true)), .faddr 2 (.t 3)⟩,
    ⟨some 21, (some (17, true)), .load false 1 (.t 20)⟩,
    ⟨some 22, (some (17, true)), .bin .eql (.t 19) (.t 21)⟩,
    ⟨some 23, none, .pick (.t 17) (.t 22) (.c (.g (.bool false)))⟩,
    ⟨some 24, none, .mov (.t 23)⟩,
    ⟨some 25, (some (24, true)), .faddr 3 (.t 2)⟩,
    ⟨some 26, (some (24, true)), .load false 1 (.t 25)⟩,
    ⟨some 27, (some (24, true)), .faddr 3 (.t 3)⟩,
    ⟨some 28, (some (24, true)), .load false 1 (.t 27)⟩,
    ⟨some 29, (some (24, true)), .bin .eql (.t 26) (.t 28)⟩,
    ⟨some 30, none, .pick (.t 24) (.t 29) (.c (.g (.bool false)))⟩,
    ⟨some 31, none, .mov (.t 30)⟩,
    ⟨some 32, (some (31, true)), .faddr 4 (.t 2)⟩,
    ⟨some 33, (some (31, true)), .load false 1 (.t 32)⟩,
    ⟨some 34, (some (31, true)), .faddr 4 (.t 3)⟩,
    ⟨some 35, (some (31, true)), .load false 1 (.t 34)⟩,
    ⟨some 36, (some (31, true)), .bin .eql (.t 33) (.t 35)⟩,
    ⟨some 37, none, .pick (.t 31) (.t 36) (.c (.g (.bool false)))⟩,
    ⟨some 38, none, .mov (.t 37)⟩,
    ⟨some 39, (some (38, true)), .faddr 5 (.t 2)⟩,
    ⟨some 40, (some (38, true)), .load false 1 (.t 39)⟩,
    ⟨some 41, (some (38, true)), .faddr 5 (.t 3)⟩,
    ⟨some 42, (some (38, true)), .load false 1 (.t 41)⟩,
    ⟨some 43, (some (38, true)), .bin .eql (.t 40) (.t 42)⟩,
    ⟨some 44, none, .pick (.t 38) (.t 43) (.c (.g (.bool false)))⟩,
    ⟨some 45, none, .mov (.t 44)⟩,
    ⟨some 46, (some (45, true)), .faddr 6 (.t 2)⟩,
    ⟨some 47, (some (45, true)), .load false 1 (.t 46)⟩,
    ⟨some 48, (some (45, true)), .faddr 6 (.t 3)⟩,
    ⟨some 49, (some (45, true)), .load false 1 (.t 48)⟩,
    ⟨some 50, (some (45, true)), .eqs false false [.b] (.t 47) (.t 49)⟩,
    ⟨some 51, none, .pick (.t 45) (.t 50) (.c (.g (.bool false)))⟩,
    ⟨some 52, none, .mov (.t 51)⟩,
    ⟨some 53, (some (52, true)), .faddr 7 (.t 2)⟩,
    ⟨some 54, (some (52, true)), .load false 1 (.t 53)⟩,
    ⟨some 55, (some (52, true)), .faddr 7 (.t 3)⟩,
    ⟨some 56, (some (52, true)), .load false 1 (.t 55)⟩,
    ⟨some 57, (some (52, true)), .call (.c (.g (.fn 22))) [(.t 54), (.t 56)]⟩,
    ⟨some 58, none, .pick (.t 52) (.t 57) (.c (.g (.bool false)))⟩,
    ⟨some 59, none, .mov (.t 58)⟩,
    ⟨some 60, (some (59, true)), .faddr 8 (.t 2)⟩,
    ⟨some 61, (some (59, true)), .load false 1 (.t 60)⟩,
    ⟨some 62, (some (59, true)), .faddr 8 (.t 3)⟩,
    ⟨some 63, (some (59, true)), .load false 1 (.t 62)⟩,
    ⟨some 64, (some (59, true)), .call (.c (.g (.fn 18))) [(.t 61), (.t 63)]⟩,
    ⟨some 65, none, .pick (.t 59) (.t 64) (.c (.g (.bool false)))⟩,
    ⟨some 4, none, .mov (.t 65)⟩]) <|
 .ret⟩
def h37 : List (List Nat) := [[2, 3], [4]]
theorem c37 : cFunc Try.prog 37 false h37 = some F37 := by kernel_rfl

def L38_0 : IC :=
 .seq (.seq (.reg [2, 3, 5, 27] [⟨some 23, none, .mov (.t 5)⟩,
     ⟨some 24, none, .faddr 0 (.t 2)⟩,
     ⟨some 25, none, .load false 1 (.t 24)⟩,
     ⟨some 26, none, .len (.t 25)⟩,
     ⟨some 27, none, .bin .lss (.t 23) (.t 26)⟩]) <|
  .cond [2, 3, 5] (.t 27)
   (.skip)
   (.exit 0)) <|
 .seq (.block [2, 3, 5] 1 <|
  .seq (.drw [2, 3, 5, 73] 0 <|
   .take ⟨some 30, none, .faddr 0 (.t 2)⟩ <|
   .take ⟨some 31, none, .load false 1 (.t 30)⟩ <|
   .take ⟨some 32, none, .mov (.t 5)⟩ <|
   .take ⟨some 33, none, .iaddr 11 (.t 31) (.t 32)⟩ <|
   .take ⟨some 34, none, .faddr 0 (.t 33)⟩ <|
   .take ⟨some 35, none, .load false 1 (.t 34)⟩ <|
   .take ⟨some 36, none, .faddr 0 (.t 3)⟩ <|
   .take ⟨some 37, none, .load false 1 (.t 36)⟩ <|
   .take ⟨some 38, none, .mov (.t 5)⟩ <|
   .take ⟨some 39, none, .iaddr 11 (.t 37) (.t 38)⟩ <|
   .take ⟨some 40, none, .faddr 0 (.t 39)⟩ <|
   .take ⟨some 41, none, .load false 1 (.t 40)⟩ <|
   .take ⟨some 42, none, .bin .neq (.t 35) (.t 41)⟩ <|
   .take ⟨some 43, none, .mov (.t 42)⟩ <|
   .take ⟨some 44, (some (43, false)), .faddr 0 (.t 2)⟩ <|
   .take ⟨some 45, (some (43, false)), .load false 1 (.t 44)⟩ <|
   .take ⟨some 46, (some (43, false)), .mov (.t 5)⟩ <|
   .take ⟨some 47, (some (43, false)), .iaddr 11 (.t 45) (.t 46)⟩ <|
   .take ⟨some 48, (some (43, false)), .faddr 1 (.t 47)⟩ <|
   .take ⟨some 49, (some (43, false)), .load false 1 (.t 48)⟩ <|
   .take ⟨some 50, (some (43, false)), .faddr 0 (.t 3)⟩ <|
   .take ⟨some 51, (some (43, false)), .load false 1 (.t 50)⟩ <|
   .take ⟨some 52, (some (43, false)), .mov (.t 5)⟩ <|
   .take ⟨some 53, (some (43, false)), .iaddr 11 (.t 51) (.t 52)⟩ <|
   .take ⟨some 54, (some (43, false)), .faddr 1 (.t 53)⟩ <|
   .take ⟨some 55, (some (43, false)), .load false 1 (.t 54)⟩ <|
   .take ⟨some 56, (some (43, false)), .bin .neq (.t 49) (.t 55)⟩ <|
   .take ⟨some 57, none, .pick (.t 43) (.c (.g (.bool true))) (.t 56)⟩ <|
   .take ⟨some 58, none, .mov (.t 57)⟩ <|
   .take ⟨some 59, (some (58, false)), .faddr 0 (.t 2)⟩ <|
   .take ⟨some 60, (some (58, false)), .load false 1 (.t 59)⟩ <|
   .take ⟨some 61, (some (58, false)), .mov (.t 5)⟩ <|
   .take ⟨some 62, (some (58, false)), .iaddr 11 (.t 60) (.t 61)⟩ <|
   .take ⟨some 63, (some (58, false)), .faddr 2 (.t 62)⟩ <|
   .take ⟨some 64, (some (58, false)), .load true 9 (.t 63)⟩ <|
   .take ⟨some 65, (some (58, false)), .faddr 0 (.t 3)⟩ <|
   .take ⟨some 66, (some (58, false)), .load false 1 (.t 65)⟩ <|
   .take ⟨some 67, (some (58, false)), .mov (.t 5)⟩ <|
   .take ⟨some 68, (some (58, false)), .iaddr 11 (.t 66) (.t 67)⟩ <|
   .take ⟨some 69, (some (58, false)), .faddr 2 (.t 68)⟩ <|
   .take ⟨some 70, (some (58, false)), .load true 9 (.t 69)⟩ <|
   .one ⟨some 71, (some (58, false)), .call (.c (.g (.fn 37))) [(.t 64), (.t 70)]⟩ <|
   .take ⟨some 72, (some (58, false)), .un .not (.t 71)⟩ <|
   .take ⟨some 73, none, .pick (.t 58) (.c (.g (.bool true))) (.t 72)⟩ <|
   .leaf) <|
  .cond [2, 3, 5] (.t 73)
   (.seq (.reg [4] [⟨some 4, none, .mov (.c (.g (.bool false)))⟩]) <|
    .ret)
   (.skip)) <|
 .reg [2, 3, 5] [⟨some 28, none, .mov (.t 5)⟩,
   ⟨some 29, none, .bin .add (.t 28) (.c (.g (.int .i64 1)))⟩,
   ⟨some 5, none, .mov (.t 29)⟩]
def L38_1 : IC :=
 .seq (.seq (.reg [2, 3, 6, 78] [⟨some 74, none, .mov (.t 6)⟩,
     ⟨some 75, none, .faddr 1 (.t 2)⟩,
     ⟨some 76, none, .load false 1 (.t 75)⟩,
     ⟨some 77, none, .len (.t 76)⟩,
     ⟨some 78, none, .bin .lss (.t 74) (.t 77)⟩]) <|
  .cond [2, 3, 6] (.t 78)
   (.skip)
   (.exit 2)) <|
 .seq (.block [2, 3, 6] 3 <|
  .seq (.drw [2, 3, 6, 91] 0 <|
   .take ⟨some 81, none, .faddr 1 (.t 2)⟩ <|
   .take ⟨some 82, none, .load false 1 (.t 81)⟩ <|
   .take ⟨some 83, none, .mov (.t 6)⟩ <|
   .take ⟨some 84, none, .iaddr 2 (.t 82) (.t 83)⟩ <|
   .take ⟨some 85, none, .load true 2 (.t 84)⟩ <|
   .take ⟨some 86, none, .faddr 1 (.t 3)⟩ <|
   .take ⟨some 87, none, .load false 1 (.t 86)⟩ <|
   .take ⟨some 88, none, .mov (.t 6)⟩ <|
   .take ⟨some 89, none, .iaddr 2 (.t 87) (.t 88)⟩ <|
   .take ⟨some 90, none, .load true 2 (.t 89)⟩ <|
   .take ⟨some 91, none, .eqs true true [.i, .i] (.t 85) (.t 90)⟩ <|
   .leaf) <|
  .cond [2, 3, 6] (.t 91)
   (.seq (.reg [4] [⟨some 4, none, .mov (.c (.g (.bool false)))⟩]) <|
    .ret)
   (.skip)) <|
 .reg [2, 3, 6] [⟨some 79, none, .mov (.t 6)⟩,
   ⟨some 80, none, .bin .add (.t 79) (.c (.g (.int .i64 1)))⟩,
   ⟨some 6, none, .mov (.t 80)⟩]
def F38 : IFunc := ⟨2, 92, [.tmp 4], false,
 .seq (.reg [2, 3] [⟨some 2, none, .box (.t 0)⟩,
    ⟨some 3, none, .box (.t 1)⟩,
    ⟨some 4, none, .mov (.c (.g (.bool false)))⟩]) <|
 .seq (.seq (.reg [2, 3, 22] [⟨some 7, none, .faddr 0 (.t 2)⟩,
     ⟨some 8, none, .load false 1 (.t 7)⟩,
     ⟨some 9, none, .len (.t 8)⟩,
     ⟨some 10, none, .faddr 0 (.t 3)⟩,
     ⟨some 11, none, .load false 1 (.t 10)⟩,
     ⟨some 12, none, .len (.t 11)⟩,
     ⟨some 13, none, .bin .neq (.t 9) (.t 12)⟩,
     ⟨some 14, none, .mov (.t 13)⟩,
     ⟨some 15, (some (14, false)), .faddr 1 (.t 2)⟩,
     ⟨some 16, (some (14, false)), .load false 1 (.t 15)⟩,
     ⟨some 17, (some (14, false)), .len (.t 16)⟩,
     ⟨some 18, (some (14, false)), .faddr 1 (.t 3)⟩,
     ⟨some 19, (some (14, false)), .load false 1 (.t 18)⟩,
     ⟨some 20, (some (14, false)), .len (.t 19)⟩,
     ⟨some 21, (some (14, false)), .bin .neq (.t 17) (.t 20)⟩,
     ⟨some 22, none, .pick (.t 14) (.c (.g (.bool true))) (.t 21)⟩]) <|
  .cond [2, 3] (.t 22)
   (.seq (.reg [4] [⟨some 4, none, .mov (.c (.g (.bool false)))⟩]) <|
    .ret)
   (.skip)) <|
 .seq (.seq (.reg [2, 3, 5] [⟨some 5, none, .mov (.c (.g (.int .i64 0)))⟩]) <|
  .block [2, 3] 0 <|
  .loop [2, 3, 5] [] L38_0) <|
 .seq (.seq (.reg [2, 3, 6] [⟨some 6, none, .mov (.c (.g (.int .i64 0)))⟩]) <|
  .block [] 2 <|
  .loop [2, 3, 6] [] L38_1) <|
 .seq (.reg [4] [⟨some 4, none, .mov (.c (.g (.bool true)))⟩]) <|
 .ret⟩
def h38 : List (List Nat) := [[2, 3], [2, 3, 22], [2, 3], [4], [2, 3, 5], [2, 3], [2, 3, 5], [2, 3, 5, 27], [2, 3, 5], [2, 3, 5], [2, 3, 5, 73], [], [2, 3, 5], [4], [2, 3, 5], [2, 3, 6], [], [2, 3, 6], [2, 3, 6, 78], [2, 3, 6], [2, 3, 6], [2, 3, 6, 91], [], [2, 3, 6], [4], [2, 3, 6], [4]]
theorem c38 : cFunc Try.prog 38 false h38 = some F38 := by kernel_rfl

def L39_0 : IC :=
 .seq (.reg [1, 3, 4, 5, 18, 19, 20, 21] [⟨some 21, none, .bin .lss (.t 20) (.t 19)⟩]) <|
 .seq (.cond [1, 3, 4, 5, 18, 19, 20] (.t 21)
   (.skip)
   (.exit 0)) <|
 .seq (.block [1, 3, 4, 5, 18, 19, 20] 1 <|
  .seq (.reg [1, 3, 4, 5, 7, 18, 19, 20] [⟨some 22, none, .iaddr 2 (.t 18) (.t 20)⟩,
     ⟨some 23, none, .load true 2 (.t 22)⟩,
     ⟨some 7, none, .alloc [.z (.int .i64 0), .z (.int .i64 0)]⟩,
     ⟨none, none, .store 2 (.t 7) (.t 23)⟩]) <|
  .seq (.seq (.reg [1, 3, 4, 5, 7, 9, 18, 19, 20] [⟨some 25, none, .mov (.t 3)⟩,
      ⟨some 26, none, .faddr 0 (.t 7)⟩,
      ⟨some 27, none, .load false 1 (.t 26)⟩,
      ⟨some 28, none, .mget true .i (some (.int .i64 0)) (.t 25) (.t 27)⟩,
      ⟨some 24, none, .mov (.t 28)⟩,
      ⟨some 29, none, .ext 0 (.t 24)⟩,
      ⟨some 30, none, .ext 1 (.t 24)⟩,
      ⟨some 8, none, .mov (.t 29)⟩,
      ⟨some 9, none, .mov (.t 30)⟩]) <|
   .seq (.reg [1, 3, 4, 5, 7, 18, 19, 20, 31] [⟨some 31, none, .mov (.t 9)⟩]) <|
   .cond [1, 3, 4, 5, 7, 18, 19, 20] (.t 31)
    (.seq (.reg [2] [⟨some 2, none, .mov (.c (.g (.bool false)))⟩]) <|
     .ret)
    (.skip)) <|
  .reg [1, 3, 4, 5, 18, 19, 20] [⟨some 32, none, .mov (.t 3)⟩,
    ⟨some 33, none, .faddr 0 (.t 7)⟩,
    ⟨some 34, none, .load false 1 (.t 33)⟩,
    ⟨some 35, none, .faddr 1 (.t 7)⟩,
    ⟨some 36, none, .load false 1 (.t 35)⟩,
    ⟨none, none, .mset .i (.t 32) (.t 34) (.t 36)⟩]) <|
 .reg [1, 3, 4, 5, 18, 19, 20] [⟨some 37, none, .bin .add (.t 20) (.c (.g (.int .i64 1)))⟩,
   ⟨some 20, none, .mov (.t 37)⟩]
def L39_1 : IC :=
 .seq (.reg [1, 3, 4, 5, 39, 40, 41, 42] [⟨some 42, none, .bin .lss (.t 41) (.t 40)⟩]) <|
 .seq (.cond [1, 3, 4, 5, 39, 40, 41] (.t 42)
   (.skip)
   (.exit 2)) <|
 .seq (.block [1, 3, 4, 5, 39, 40, 41] 3 <|
  .seq (.reg [1, 3, 4, 5, 11, 39, 40, 41] [⟨some 43, none, .iaddr 11 (.t 39) (.t 41)⟩,
     ⟨some 44, none, .load true 11 (.t 43)⟩,
     ⟨some 11, none, .alloc [.z (.int .i64 0), .z (.int .i64 0), .z (.int .i64 0), .z (.int .i64 0), .z (.int .i64 0), .z (.int .i64 0), .z (.int .i64 0), .z (.int .i64 0), .z (.bool false), .s 6, .s 8]⟩,
     ⟨none, none, .store 11 (.t 11) (.t 44)⟩]) <|
  .seq (.reg [1, 3, 4, 5, 11, 12, 13, 39, 40, 41] [⟨some 46, none, .mov (.t 3)⟩,
     ⟨some 47, none, .faddr 0 (.t 11)⟩,
     ⟨some 48, none, .load false 1 (.t 47)⟩,
     ⟨some 49, none, .mget true .i (some (.int .i64 0)) (.t 46) (.t 48)⟩,
     ⟨some 45, none, .mov (.t 49)⟩,
     ⟨some 50, none, .ext 0 (.t 45)⟩,
     ⟨some 51, none, .ext 1 (.t 45)⟩,
     ⟨some 12, none, .mov (.t 50)⟩,
     ⟨some 13, none, .mov (.t 51)⟩]) <|
  .seq (.seq (.reg [1, 3, 4, 5, 11, 39, 40, 41, 64] [⟨some 52, none, .mov (.t 4)⟩,
      ⟨some 53, none, .load true 11 (.t 11)⟩,
      ⟨some 54, none, .call (.c (.g (.fn 61))) [(.t 53)]⟩,
      ⟨some 55, none, .mget2 false [.i, .i] (some (.bool false)) (.t 52) (.t 54)⟩,
      ⟨some 56, none, .mov (.t 55)⟩,
      ⟨some 57, (some (56, false)), .mov (.t 13)⟩,
      ⟨some 58, (some (56, false)), .mov (.t 57)⟩,
      ⟨some 59, (some (58, true)), .faddr 1 (.t 11)⟩,
      ⟨some 60, (some (58, true)), .load false 1 (.t 59)⟩,
      ⟨some 61, (some (58, true)), .mov (.t 12)⟩,
      ⟨some 62, (some (58, true)), .bin .leq (.t 60) (.t 61)⟩,
      ⟨some 63, (some (56, false)), .pick (.t 58) (.t 62) (.c (.g (.bool false)))⟩,
      ⟨some 64, none, .pick (.t 56) (.c (.g (.bool true))) (.t 63)⟩]) <|
   .cond [1, 3, 4, 5, 11, 39, 40, 41] (.t 64)
    (.seq (.reg [2] [⟨some 2, none, .mov (.c (.g (.bool false)))⟩]) <|
     .ret)
    (.skip)) <|
  .seq (.reg [1, 3, 4, 5, 11, 39, 40, 41] [⟨some 65, none, .mov (.t 4)⟩,
     ⟨some 66, none, .load true 11 (.t 11)⟩,
     ⟨some 67, none, .call (.c (.g (.fn 61))) [(.t 66)]⟩,
     ⟨none, none, .mset2 [.i, .i] (.t 65) (.t 67) (.c (.g (.bool true)))⟩]) <|
  .seq (.reg [1, 3, 4, 5, 11, 39, 40, 41] [⟨some 68, none, .mov (.t 5)⟩,
     ⟨some 69, none, .faddr 0 (.t 11)⟩,
     ⟨some 70, none, .load false 1 (.t 69)⟩,
     ⟨some 71, none, .mget false .i (some (.int .i64 0)) (.t 68) (.t 70)⟩,
     ⟨some 72, none, .bin .add (.t 71) (.c (.g (.int .i64 1)))⟩,
     ⟨none, none, .mset .i (.t 68) (.t 70) (.t 72)⟩]) <|
  .seq (.reg [1, 3, 4, 5, 39, 40, 41, 77] [⟨some 73, none, .mov (.t 5)⟩,
     ⟨some 74, none, .faddr 0 (.t 11)⟩,
     ⟨some 75, none, .load false 1 (.t 74)⟩,
     ⟨some 76, none, .mget false .i (some (.int .i64 0)) (.t 73) (.t 75)⟩,
     ⟨some 77, none, .bin .gtr (.t 76) (.c (.g (.int .i64 4)))⟩]) <|
  .cond [1, 3, 4, 5, 39, 40, 41] (.t 77)
   (.seq (.reg [2] [⟨some 2, none, .mov (.c (.g (.bool false)))⟩]) <|
    .ret)
   (.skip)) <|
 .reg [1, 3, 4, 5, 39, 40, 41] [⟨some 78, none, .bin .add (.t 41) (.c (.g (.int .i64 1)))⟩,
   ⟨some 41, none, .mov (.t 78)⟩]
def F39 : IFunc := ⟨1, 83, [.tmp 2], false,
 .seq (.reg [1] [⟨some 1, none, .box (.t 0)⟩,
    ⟨some 2, none, .mov (.c (.g (.bool false)))⟩]) <|
 .seq (.reg [1, 3, 4, 5] [⟨some 14, none, .mkmap⟩,
    ⟨some 15, none, .mkmap2⟩,
    ⟨some 16, none, .mkmap⟩,
    ⟨some 3, none, .mov (.t 14)⟩,
    ⟨some 4, none, .mov (.t 15)⟩,
    ⟨some 5, none, .mov (.t 16)⟩]) <|
 .seq (.seq (.reg [1, 3, 4, 5, 18, 19, 20] [⟨some 17, none, .faddr 1 (.t 1)⟩,
     ⟨some 18, none, .load false 1 (.t 17)⟩,
     ⟨some 19, none, .len (.t 18)⟩,
     ⟨some 20, none, .mov (.c (.g (.int .i64 0)))⟩]) <|
  .block [1, 3, 4, 5] 0 <|
  .loop [1, 3, 4, 5, 18, 19, 20] [] L39_0) <|
 .seq (.seq (.reg [1, 3, 4, 5, 39, 40, 41] [⟨some 38, none, .faddr 0 (.t 1)⟩,
     ⟨some 39, none, .load false 1 (.t 38)⟩,
     ⟨some 40, none, .len (.t 39)⟩,
     ⟨some 41, none, .mov (.c (.g (.int .i64 0)))⟩]) <|
  .block [1] 2 <|
  .loop [1, 3, 4, 5, 39, 40, 41] [] L39_1) <|
 .seq (.reg [2] [⟨some 79, none, .load true 2 (.t 1)⟩,
    ⟨some 80, none, .call (.c (.g (.fn 42))) [(.t 79)]⟩,
    ⟨some 81, none, .len (.t 80)⟩,
    ⟨some 82, none, .bin .leq (.t 81) (.c (.g (.int .i64 8)))⟩,
    ⟨some 2, none, .mov (.t 82)⟩]) <|
 .ret⟩
def h39 : List (List Nat) := [[1], [1, 3, 4, 5], [1, 3, 4, 5, 18, 19, 20], [1, 3, 4, 5], [1, 3, 4, 5, 18, 19, 20], [1, 3, 4, 5, 18, 19, 20, 21], [1, 3, 4, 5, 18, 19, 20], [1, 3, 4, 5, 18, 19, 20], [1, 3, 4, 5, 7, 18, 19, 20], [1, 3, 4, 5, 7, 9, 18, 19, 20], [1, 3, 4, 5, 7, 18, 19, 20, 31], [1, 3, 4, 5, 7, 18, 19, 20], [2], [1, 3, 4, 5, 18, 19, 20], [1, 3, 4, 5, 18, 19, 20], [1, 3, 4, 5, 39, 40, 41], [1], [1, 3, 4, 5, 39, 40, 41], [1, 3, 4, 5, 39, 40, 41, 42], [1, 3, 4, 5, 39, 40, 41], [1, 3, 4, 5, 39, 40, 41], [1, 3, 4, 5, 11, 39, 40, 41], [1, 3, 4, 5, 11, 12, 13, 39, 40, 41], [1, 3, 4, 5, 11, 39, 40, 41, 64], [1, 3, 4, 5, 11, 39, 40, 41], [2], [1, 3, 4, 5, 11, 39, 40, 41], [1, 3, 4, 5, 11, 39, 40, 41], [1, 3, 4, 5, 39, 40, 41, 77], [1, 3, 4, 5, 39, 40, 41], [2], [1, 3, 4, 5, 39, 40, 41], [2]]
theorem c39 : cFunc Try.prog 39 false h39 = some F39 := by kernel_rfl

def L40_0 : IC :=
 .seq (.reg [1, 8, 9, 10, 11] [⟨some 11, none, .bin .lss (.t 10) (.t 9)⟩]) <|
 .seq (.cond [1, 8, 9, 10] (.t 11)
   (.skip)
   (.exit 0)) <|
 .seq (.block [1, 8, 9, 10] 1 <|
  .seq (.reg [1, 6, 8, 9, 10] [⟨some 12, none, .iaddr 2 (.t 8) (.t 10)⟩,
     ⟨some 13, none, .load true 2 (.t 12)⟩,
     ⟨some 6, none, .alloc [.z (.int .i64 0), .z (.int .i64 0)]⟩,
     ⟨none, none, .store 2 (.t 6) (.t 13)⟩]) <|
  .seq (.reg [1, 6, 8, 9, 10, 17] [⟨some 14, none, .faddr 0 (.t 6)⟩,
     ⟨some 15, none, .load false 1 (.t 14)⟩,
     ⟨some 16, none, .mov (.t 1)⟩,
     ⟨some 17, none, .bin .eql (.t 15) (.t 16)⟩]) <|
  .cond [1, 8, 9, 10] (.t 17)
   (.seq (.reg [4] [⟨some 18, none, .faddr 1 (.t 6)⟩,
       ⟨some 19, none, .load false 1 (.t 18)⟩,
       ⟨some 4, none, .mov (.t 19)⟩]) <|
    .ret)
   (.skip)) <|
 .reg [1, 8, 9, 10] [⟨some 20, none, .bin .add (.t 10) (.c (.g (.int .i64 1)))⟩,
   ⟨some 10, none, .mov (.t 20)⟩]
def F40 : IFunc := ⟨2, 21, [.tmp 4], false,
 .seq (.reg [1, 2] [⟨some 2, none, .box (.t 0)⟩,
    ⟨some 4, none, .mov (.c (.g (.int .i64 0)))⟩]) <|
 .seq (.seq (.reg [1, 8, 9, 10] [⟨some 7, none, .faddr 1 (.t 2)⟩,
     ⟨some 8, none, .load false 1 (.t 7)⟩,
     ⟨some 9, none, .len (.t 8)⟩,
     ⟨some 10, none, .mov (.c (.g (.int .i64 0)))⟩]) <|
  .block [] 0 <|
  .loop [1, 8, 9, 10] [] L40_0) <|
 .seq (.reg [4] [⟨some 4, none, .mov (.c (.g (.int .i64 (-1))))⟩]) <|
 .ret⟩
def h40 : List (List Nat) := [[1, 2], [1, 8, 9, 10], [], [1, 8, 9, 10], [1, 8, 9, 10, 11], [1, 8, 9, 10], [1, 8, 9, 10], [1, 6, 8, 9, 10], [1, 6, 8, 9, 10, 17], [1, 8, 9, 10], [4], [1, 8, 9, 10], [4]]
theorem c40 : cFunc Try.prog 40 false h40 = some F40 := by kernel_rfl

def L41_0 : IC :=
 .seq (.reg [1, 5, 9, 10, 11, 12] [⟨some 12, none, .bin .lss (.t 11) (.t 10)⟩]) <|
 .seq (.cond [1, 5, 9, 10, 11] (.t 12)
   (.skip)
   (.exit 0)) <|
 .seq (.block [1, 5, 9, 10, 11] 1 <|
  .seq (.reg [1, 5, 7, 9, 10, 11] [⟨some 13, none, .iaddr 11 (.t 9) (.t 11)⟩,
     ⟨some 14, none, .load true 11 (.t 13)⟩,
     ⟨some 7, none, .alloc [.z (.int .i64 0), .z (.int .i64 0), .z (.int .i64 0), .z (.int .i64 0), .z (.int .i64 0), .z (.int .i64 0), .z (.int .i64 0), .z (.int .i64 0), .z (.bool false), .s 6, .s 8]⟩,
     ⟨none, none, .store 11 (.t 7) (.t 14)⟩]) <|
  .seq (.reg [1, 5, 7, 9, 10, 11, 18] [⟨some 15, none, .faddr 0 (.t 7)⟩,
     ⟨some 16, none, .load false 1 (.t 15)⟩,
     ⟨some 17, none, .mov (.t 1)⟩,
     ⟨some 18, none, .bin .eql (.t 16) (.t 17)⟩]) <|
  .cond [1, 5, 9, 10, 11] (.t 18)
   (.reg [1, 5, 9, 10, 11] [⟨some 19, none, .mov (.t 5)⟩,
      ⟨some 20, none, .faddr 1 (.t 7)⟩,
      ⟨some 21, none, .load false 1 (.t 20)⟩,
      ⟨some 22, none, .bslice 1 1 [.int .i64 0] [(0, 1, (.t 21))]⟩,
      ⟨some 23, none, .app 1 8 (.t 19) (.t 22)⟩,
      ⟨some 5, none, .mov (.t 23)⟩])
   (.skip)) <|
 .reg [1, 5, 9, 10, 11] [⟨some 24, none, .bin .add (.t 11) (.c (.g (.int .i64 1)))⟩,
   ⟨some 11, none, .mov (.t 24)⟩]
def F41 : IFunc := ⟨2, 28, [.tmp 4], false,
 .seq (.reg [1, 2] [⟨some 2, none, .box (.t 0)⟩,
    ⟨some 4, none, .nres 1⟩]) <|
 .seq (.reg [1, 2, 5] [⟨some 5, none, .nres 1⟩]) <|
 .seq (.seq (.reg [1, 5, 9, 10, 11] [⟨some 8, none, .faddr 0 (.t 2)⟩,
     ⟨some 9, none, .load false 1 (.t 8)⟩,
     ⟨some 10, none, .len (.t 9)⟩,
     ⟨some 11, none, .mov (.c (.g (.int .i64 0)))⟩]) <|
  .block [5] 0 <|
  .loop [1, 5, 9, 10, 11] [] L41_0) <|
 .seq (.reg [5] [⟨some 25, none, .mov (.t 5)⟩,
    ⟨some 26, none, .call (.c (.g (.fn 71))) [(.t 25)]⟩]) <|
 .seq (.reg [4] [⟨some 27, none, .mov (.t 5)⟩,
    ⟨some 4, none, .mov (.t 27)⟩]) <|
 .ret⟩
def h41 : List (List Nat) := [[1, 2], [1, 2, 5], [1, 5, 9, 10, 11], [5], [1, 5, 9, 10, 11], [1, 5, 9, 10, 11, 12], [1, 5, 9, 10, 11], [1, 5, 9, 10, 11], [1, 5, 7, 9, 10, 11], [1, 5, 7, 9, 10, 11, 18], [1, 5, 9, 10, 11], [1, 5, 9, 10, 11], [1, 5, 9, 10, 11], [5], [4]]
theorem c41 : cFunc Try.prog 41 false h41 = some F41 := by kernel_rfl

def L42_0 : IC :=
 .seq (.reg [1, 3, 10, 11, 12, 13] [⟨some 13, none, .bin .lss (.t 12) (.t 11)⟩]) <|
 .seq (.cond [1, 3, 10, 11, 12] (.t 13)
   (.skip)
   (.exit 0)) <|
 .seq (.block [1, 3, 10, 11, 12] 1 <|
  .seq (.reg [1, 3, 5, 10, 11, 12] [⟨some 14, none, .iaddr 11 (.t 10) (.t 12)⟩,
     ⟨some 15, none, .load true 11 (.t 14)⟩,
     ⟨some 5, none, .alloc [.z (.int .i64 0), .z (.int .i64 0), .z (.int .i64 0), .z (.int .i64 0), .z (.int .i64 0), .z (.int .i64 0), .z (.int .i64 0), .z (.int .i64 0), .z (.bool false), .s 6, .s 8]⟩,
     ⟨none, none, .store 11 (.t 5) (.t 15)⟩]) <|
  .reg [1, 3, 10, 11, 12] [⟨some 16, none, .mov (.t 3)⟩,
    ⟨some 17, none, .faddr 0 (.t 5)⟩,
    ⟨some 18, none, .load false 1 (.t 17)⟩,
    ⟨none, none, .mset .i (.t 16) (.t 18) (.c (.g (.bool true)))⟩]) <|
 .reg [1, 3, 10, 11, 12] [⟨some 19, none, .bin .add (.t 12) (.c (.g (.int .i64 1)))⟩,
   ⟨some 12, none, .mov (.t 19)⟩]
def L42_1 : IC :=
 .seq (.reg [3, 21, 22, 23, 24] [⟨some 24, none, .bin .lss (.t 23) (.t 22)⟩]) <|
 .seq (.cond [3, 21, 22, 23] (.t 24)
   (.skip)
   (.exit 2)) <|
 .seq (.block [3, 21, 22, 23] 3 <|
  .seq (.reg [3, 7, 21, 22, 23] [⟨some 25, none, .iaddr 2 (.t 21) (.t 23)⟩,
     ⟨some 26, none, .load true 2 (.t 25)⟩,
     ⟨some 7, none, .alloc [.z (.int .i64 0), .z (.int .i64 0)]⟩,
     ⟨none, none, .store 2 (.t 7) (.t 26)⟩]) <|
  .reg [3, 21, 22, 23] [⟨some 27, none, .mov (.t 3)⟩,
    ⟨some 28, none, .faddr 0 (.t 7)⟩,
    ⟨some 29, none, .load false 1 (.t 28)⟩,
    ⟨none, none, .mset .i (.t 27) (.t 29) (.c (.g (.bool true)))⟩]) <|
 .reg [3, 21, 22, 23] [⟨some 30, none, .bin .add (.t 23) (.c (.g (.int .i64 1)))⟩,
   ⟨some 23, none, .mov (.t 30)⟩]
def F42 : IFunc := ⟨1, 34, [.tmp 2], false,
 .seq (.reg [1] [⟨some 1, none, .box (.t 0)⟩,
    ⟨some 2, none, .nres 1⟩]) <|
 .seq (.reg [1, 3] [⟨some 8, none, .mkmap⟩,
    ⟨some 3, none, .mov (.t 8)⟩]) <|
 .seq (.seq (.reg [1, 3, 10, 11, 12] [⟨some 9, none, .faddr 0 (.t 1)⟩,
     ⟨some 10, none, .load false 1 (.t 9)⟩,
     ⟨some 11, none, .len (.t 10)⟩,
     ⟨some 12, none, .mov (.c (.g (.int .i64 0)))⟩]) <|
  .block [1, 3] 0 <|
  .loop [1, 3, 10, 11, 12] [] L42_0) <|
 .seq (.seq (.reg [3, 21, 22, 23] [⟨some 20, none, .faddr 1 (.t 1)⟩,
     ⟨some 21, none, .load false 1 (.t 20)⟩,
     ⟨some 22, none, .len (.t 21)⟩,
     ⟨some 23, none, .mov (.c (.g (.int .i64 0)))⟩]) <|
  .block [3] 2 <|
  .loop [3, 21, 22, 23] [] L42_1) <|
 .seq (.reg [2] [⟨some 31, none, .mov (.t 3)⟩,
    ⟨some 32, none, .call (.c (.g (.fn 73))) [(.t 31)]⟩,
    ⟨some 33, none, .call (.c (.g (.fn 72))) [(.t 32)]⟩,
    ⟨some 2, none, .mov (.t 33)⟩]) <|
 .ret⟩
def h42 : List (List Nat) := [[1], [1, 3], [1, 3, 10, 11, 12], [1, 3], [1, 3, 10, 11, 12], [1, 3, 10, 11, 12, 13], [1, 3, 10, 11, 12], [1, 3, 10, 11, 12], [1, 3, 5, 10, 11, 12], [1, 3, 10, 11, 12], [1, 3, 10, 11, 12], [3, 21, 22, 23], [3], [3, 21, 22, 23], [3, 21, 22, 23, 24], [3, 21, 22, 23], [3, 21, 22, 23], [3, 7, 21, 22, 23], [3, 21, 22, 23], [3, 21, 22, 23], [2]]
theorem c42 : cFunc Try.prog 42 false h42 = some F42 := by kernel_rfl

def L59_0 : IC :=
 .seq (.reg [0, 1, 7, 8, 9] [⟨some 9, none, .bin .lss (.t 8) (.t 7)⟩]) <|
 .seq (.cond [0, 1, 7, 8] (.t 9)
   (.skip)
   (.exit 0)) <|
 .seq (.block [0, 1, 7, 8] 1 <|
  .seq (.reg [0, 1, 5, 7, 8] [⟨some 10, none, .mov (.t 8)⟩,
     ⟨some 5, none, .mov (.t 10)⟩]) <|
  .seq (.reg [0, 1, 5, 7, 8, 16] [⟨some 11, none, .mov (.t 1)⟩,
     ⟨some 12, none, .mov (.t 0)⟩,
     ⟨some 13, none, .mov (.t 5)⟩,
     ⟨some 14, none, .iaddr 11 (.t 12) (.t 13)⟩,
     ⟨some 15, none, .load true 11 (.t 14)⟩,
     ⟨some 16, none, .call (.t 11) [(.t 15)]⟩]) <|
  .cond [0, 1, 7, 8] (.t 16)
   (.seq (.reg [4] [⟨some 17, none, .mov (.t 5)⟩,
       ⟨some 4, none, .mov (.t 17)⟩]) <|
    .ret)
   (.skip)) <|
 .reg [0, 1, 7, 8] [⟨some 18, none, .bin .add (.t 8) (.c (.g (.int .i64 1)))⟩,
   ⟨some 8, none, .mov (.t 18)⟩]
def F59 : IFunc := ⟨2, 19, [.tmp 4], false,
 .seq (.reg [0, 1] [⟨some 4, none, .mov (.c (.g (.int .i64 0)))⟩]) <|
 .seq (.seq (.reg [0, 1, 7, 8] [⟨some 6, none, .mov (.t 0)⟩,
     ⟨some 7, none, .len (.t 6)⟩,
     ⟨some 8, none, .mov (.c (.g (.int .i64 0)))⟩]) <|
  .block [] 0 <|
  .loop [0, 1, 7, 8] [] L59_0) <|
 .seq (.reg [4] [⟨some 4, none, .mov (.c (.g (.int .i64 (-1))))⟩]) <|
 .ret⟩
def h59 : List (List Nat) := [[0, 1], [0, 1, 7, 8], [], [0, 1, 7, 8], [0, 1, 7, 8, 9], [0, 1, 7, 8], [0, 1, 7, 8], [0, 1, 5, 7, 8], [0, 1, 5, 7, 8, 16], [0, 1, 7, 8], [4], [0, 1, 7, 8], [4]]
theorem c59 : cFunc Try.prog 59 false h59 = some F59 := by kernel_rfl

def F60 : IFunc := ⟨2, 8, [.tmp 3], false,
 .seq (.reg [1, 2] [⟨some 2, none, .box (.t 0)⟩,
    ⟨some 3, none, .mov (.c (.g (.bool false)))⟩]) <|
 .seq (.drw [3] 0 <|
  .take ⟨some 4, none, .load true 11 (.t 2)⟩ <|
  .take ⟨some 6, none, .load true 2 (.t 1)⟩ <|
  .one ⟨some 5, none, .call (.c (.g (.fn 61))) [(.t 4)]⟩ <|
  .take ⟨some 7, none, .eqs false true [.i, .i] (.t 5) (.t 6)⟩ <|
  .free <|
  .take ⟨some 3, none, .mov (.t 7)⟩ <|
  .leaf) <|
 .ret⟩
def h60 : List (List Nat) := [[1, 2], [3], []]
theorem c60 : cFunc Try.prog 60 false h60 = some F60 := by kernel_rfl

def F61 : IFunc := ⟨1, 8, [.cell 2 true 2], false,
 .seq (.reg [1, 2] [⟨some 1, none, .box (.t 0)⟩,
    ⟨some 2, none, .alloc [.z (.int .i64 0), .z (.int .i64 0)]⟩]) <|
 .seq (.reg [2] [⟨some 3, none, .faddr 0 (.t 1)⟩,
    ⟨some 4, none, .load false 1 (.t 3)⟩,
    ⟨some 5, none, .faddr 1 (.t 1)⟩,
    ⟨some 6, none, .load false 1 (.t 5)⟩,
    ⟨some 7, none, .build [.g (.int .i64 0), .g (.int .i64 0)] [(0, 1, (.t 4)), (1, 1, (.t 6))]⟩,
    ⟨none, none, .store 2 (.t 2) (.t 7)⟩]) <|
 .ret⟩
def h61 : List (List Nat) := [[1, 2], [2]]
theorem c61 : cFunc Try.prog 61 false h61 = some F61 := by kernel_rfl

def F62 : IFunc := ⟨2, 9, [.tmp 4], false,
 .seq (.reg [0, 1] [⟨some 4, none, .mov (.c (.g (.bool false)))⟩]) <|
 .seq (.reg [4] [⟨some 5, none, .mov (.t 0)⟩,
    ⟨some 6, none, .mov (.t 1)⟩,
    ⟨some 7, none, .call (.c (.g (.fn 87))) [(.t 5), (.t 6)]⟩,
    ⟨some 8, none, .bin .geq (.t 7) (.c (.g (.int .i64 0)))⟩,
    ⟨some 4, none, .mov (.t 8)⟩]) <|
 .ret⟩
def h62 : List (List Nat) := [[0, 1], [4]]
theorem c62 : cFunc Try.prog 62 false h62 = some F62 := by kernel_rfl

def L63_0 : IC :=
 .seq (.seq (.reg [1, 2, 5, 10] [⟨some 6, none, .mov (.t 5)⟩,
     ⟨some 7, none, .faddr 1 (.t 2)⟩,
     ⟨some 8, none, .load false 1 (.t 7)⟩,
     ⟨some 9, none, .len (.t 8)⟩,
     ⟨some 10, none, .bin .lss (.t 6) (.t 9)⟩]) <|
  .cond [1, 2, 5] (.t 10)
   (.skip)
   (.exit 0)) <|
 .seq (.block [1, 2, 5] 1 <|
  .seq (.reg [1, 2, 5, 20] [⟨some 13, none, .faddr 1 (.t 2)⟩,
     ⟨some 14, none, .load false 1 (.t 13)⟩,
     ⟨some 15, none, .mov (.t 5)⟩,
     ⟨some 16, none, .iaddr 2 (.t 14) (.t 15)⟩,
     ⟨some 17, none, .faddr 0 (.t 16)⟩,
     ⟨some 18, none, .load false 1 (.t 17)⟩,
     ⟨some 19, none, .mov (.t 1)⟩,
     ⟨some 20, none, .bin .eql (.t 18) (.t 19)⟩]) <|
  .cond [1, 2, 5] (.t 20)
   (.seq (.reg [4] [⟨some 21, none, .faddr 1 (.t 2)⟩,
       ⟨some 22, none, .load false 1 (.t 21)⟩,
       ⟨some 23, none, .mov (.t 5)⟩,
       ⟨some 24, none, .iaddr 2 (.t 22) (.t 23)⟩,
       ⟨some 25, none, .faddr 1 (.t 24)⟩,
       ⟨some 26, none, .load false 1 (.t 25)⟩,
       ⟨some 4, none, .mov (.t 26)⟩]) <|
    .ret)
   (.skip)) <|
 .reg [1, 2, 5] [⟨some 11, none, .mov (.t 5)⟩,
   ⟨some 12, none, .bin .add (.t 11) (.c (.g (.int .i64 1)))⟩,
   ⟨some 5, none, .mov (.t 12)⟩]
def F63 : IFunc := ⟨2, 27, [.tmp 4], false,
 .seq (.reg [1, 2] [⟨some 2, none, .box (.t 0)⟩,
    ⟨some 4, none, .mov (.c (.g (.int .i64 0)))⟩]) <|
 .seq (.seq (.reg [1, 2, 5] [⟨some 5, none, .mov (.c (.g (.int .i64 0)))⟩]) <|
  .block [] 0 <|
  .loop [1, 2, 5] [] L63_0) <|
 .seq (.reg [4] [⟨some 4, none, .mov (.c (.g (.int .i64 (-1))))⟩]) <|
 .ret⟩
def h63 : List (List Nat) := [[1, 2], [1, 2, 5], [], [1, 2, 5], [1, 2, 5, 10], [1, 2, 5], [1, 2, 5], [1, 2, 5, 20], [1, 2, 5], [4], [1, 2, 5], [4]]
theorem c63 : cFunc Try.prog 63 false h63 = some F63 := by kernel_rfl

def L64_0 : IC :=
 .seq (.seq (.reg [1, 3, 4, 10] [⟨some 6, none, .mov (.t 4)⟩,
     ⟨some 7, none, .faddr 0 (.t 1)⟩,
     ⟨some 8, none, .load false 1 (.t 7)⟩,
     ⟨some 9, none, .len (.t 8)⟩,
     ⟨some 10, none, .bin .lss (.t 6) (.t 9)⟩]) <|
  .cond [1, 3, 4] (.t 10)
   (.skip)
   (.exit 0)) <|
 .seq (.block [1, 3, 4] 1 <|
  .reg [1, 3, 4] [⟨some 13, none, .mov (.t 3)⟩,
    ⟨some 14, none, .faddr 0 (.t 1)⟩,
    ⟨some 15, none, .load false 1 (.t 14)⟩,
    ⟨some 16, none, .mov (.t 4)⟩,
    ⟨some 17, none, .iaddr 11 (.t 15) (.t 16)⟩,
    ⟨some 18, none, .faddr 0 (.t 17)⟩,
    ⟨some 19, none, .load false 1 (.t 18)⟩,
    ⟨some 20, none, .call (.c (.g (.fn 65))) [(.t 13), (.t 19), (.c (.g (.bool true)))]⟩,
    ⟨some 3, none, .mov (.t 20)⟩]) <|
 .reg [1, 3, 4] [⟨some 11, none, .mov (.t 4)⟩,
   ⟨some 12, none, .bin .add (.t 11) (.c (.g (.int .i64 1)))⟩,
   ⟨some 4, none, .mov (.t 12)⟩]
def L64_1 : IC :=
 .seq (.seq (.reg [1, 3, 5, 25] [⟨some 21, none, .mov (.t 5)⟩,
     ⟨some 22, none, .faddr 1 (.t 1)⟩,
     ⟨some 23, none, .load false 1 (.t 22)⟩,
     ⟨some 24, none, .len (.t 23)⟩,
     ⟨some 25, none, .bin .lss (.t 21) (.t 24)⟩]) <|
  .cond [1, 3, 5] (.t 25)
   (.skip)
   (.exit 2)) <|
 .seq (.block [1, 3, 5] 3 <|
  .reg [1, 3, 5] [⟨some 28, none, .mov (.t 3)⟩,
    ⟨some 29, none, .faddr 1 (.t 1)⟩,
    ⟨some 30, none, .load false 1 (.t 29)⟩,
    ⟨some 31, none, .mov (.t 5)⟩,
    ⟨some 32, none, .iaddr 2 (.t 30) (.t 31)⟩,
    ⟨some 33, none, .faddr 0 (.t 32)⟩,
    ⟨some 34, none, .load false 1 (.t 33)⟩,
    ⟨some 35, none, .call (.c (.g (.fn 65))) [(.t 28), (.t 34), (.c (.g (.bool true)))]⟩,
    ⟨some 3, none, .mov (.t 35)⟩]) <|
 .reg [1, 3, 5] [⟨some 26, none, .mov (.t 5)⟩,
   ⟨some 27, none, .bin .add (.t 26) (.c (.g (.int .i64 1)))⟩,
   ⟨some 5, none, .mov (.t 27)⟩]
def F64 : IFunc := ⟨1, 37, [.tmp 2], false,
 .seq (.reg [1] [⟨some 1, none, .box (.t 0)⟩,
    ⟨some 2, none, .nres 1⟩]) <|
 .seq (.reg [1, 3] [⟨some 3, none, .nres 1⟩]) <|
 .seq (.seq (.reg [1, 3, 4] [⟨some 4, none, .mov (.c (.g (.int .i64 0)))⟩]) <|
  .block [1, 3] 0 <|
  .loop [1, 3, 4] [] L64_0) <|
 .seq (.seq (.reg [1, 3, 5] [⟨some 5, none, .mov (.c (.g (.int .i64 0)))⟩]) <|
  .block [3] 2 <|
  .loop [1, 3, 5] [] L64_1) <|
 .seq (.reg [2] [⟨some 36, none, .mov (.t 3)⟩,
    ⟨some 2, none, .mov (.t 36)⟩]) <|
 .ret⟩
def h64 : List (List Nat) := [[1], [1, 3], [1, 3, 4], [1, 3], [1, 3, 4], [1, 3, 4, 10], [1, 3, 4], [1, 3, 4], [1, 3, 4], [1, 3, 4], [1, 3, 5], [3], [1, 3, 5], [1, 3, 5, 25], [1, 3, 5], [1, 3, 5], [1, 3, 5], [1, 3, 5], [2]]
theorem c64 : cFunc Try.prog 64 false h64 = some F64 := by kernel_rfl

def L65_0 : IC :=
 .seq (.seq (.reg [0, 1, 2, 7, 20] [⟨some 9, none, .mov (.t 7)⟩,
     ⟨some 10, none, .mov (.t 0)⟩,
     ⟨some 11, none, .len (.t 10)⟩,
     ⟨some 12, none, .bin .lss (.t 9) (.t 11)⟩,
     ⟨some 13, none, .mov (.t 12)⟩,
     ⟨some 14, (some (13, true)), .mov (.t 0)⟩,
     ⟨some 15, (some (13, true)), .mov (.t 7)⟩,
     ⟨some 16, (some (13, true)), .iaddr 1 (.t 14) (.t 15)⟩,
     ⟨some 17, (some (13, true)), .load false 1 (.t 16)⟩,
     ⟨some 18, (some (13, true)), .mov (.t 1)⟩,
     ⟨some 19, (some (13, true)), .bin .lss (.t 17) (.t 18)⟩,
     ⟨some 20, none, .pick (.t 13) (.t 19) (.c (.g (.bool false)))⟩]) <|
  .cond [0, 1, 2, 7] (.t 20)
   (.skip)
   (.exit 0)) <|
 .block [0, 1, 2, 7] 1 <|
 .reg [0, 1, 2, 7] [⟨some 21, none, .mov (.t 7)⟩,
   ⟨some 22, none, .bin .add (.t 21) (.c (.g (.int .i64 1)))⟩,
   ⟨some 7, none, .mov (.t 22)⟩]
def F65 : IFunc := ⟨3, 53, [.tmp 6], false,
 .seq (.reg [0, 1, 2] [⟨some 6, none, .nres 1⟩]) <|
 .seq (.reg [0, 1, 2, 7] [⟨some 7, none, .mov (.c (.g (.int .i64 0)))⟩]) <|
 .seq (.block [0, 1, 2, 7] 0 <|
  .loop [0, 1, 2, 7] [] L65_0) <|
 .seq (.seq (.reg [0, 1, 7, 37] [⟨some 23, none, .mov (.t 2)⟩,
     ⟨some 24, none, .mov (.t 23)⟩,
     ⟨some 25, (some (24, true)), .mov (.t 7)⟩,
     ⟨some 26, (some (24, true)), .mov (.t 0)⟩,
     ⟨some 27, (some (24, true)), .len (.t 26)⟩,
     ⟨some 28, (some (24, true)), .bin .lss (.t 25) (.t 27)⟩,
     ⟨some 29, none, .pick (.t 24) (.t 28) (.c (.g (.bool false)))⟩,
     ⟨some 30, none, .mov (.t 29)⟩,
     ⟨some 31, (some (30, true)), .mov (.t 0)⟩,
     ⟨some 32, (some (30, true)), .mov (.t 7)⟩,
     ⟨some 33, (some (30, true)), .iaddr 1 (.t 31) (.t 32)⟩,
     ⟨some 34, (some (30, true)), .load false 1 (.t 33)⟩,
     ⟨some 35, (some (30, true)), .mov (.t 1)⟩,
     ⟨some 36, (some (30, true)), .bin .eql (.t 34) (.t 35)⟩,
     ⟨some 37, none, .pick (.t 30) (.t 36) (.c (.g (.bool false)))⟩]) <|
  .cond [0, 1, 7] (.t 37)
   (.seq (.reg [6] [⟨some 38, none, .mov (.t 0)⟩,
       ⟨some 6, none, .mov (.t 38)⟩]) <|
    .ret)
   (.skip)) <|
 .seq (.reg [0, 1, 7, 8] [⟨some 39, none, .mk0 1⟩,
    ⟨some 40, none, .mov (.t 0)⟩,
    ⟨some 41, none, .mov (.t 7)⟩,
    ⟨some 42, none, .slc 1 (.t 40) none (some (.t 41))⟩,
    ⟨some 43, none, .app 1 8 (.t 39) (.t 42)⟩,
    ⟨some 8, none, .mov (.t 43)⟩]) <|
 .seq (.reg [0, 7, 8] [⟨some 44, none, .mov (.t 8)⟩,
    ⟨some 45, none, .mov (.t 1)⟩,
    ⟨some 46, none, .bslice 1 1 [.int .i64 0] [(0, 1, (.t 45))]⟩,
    ⟨some 47, none, .app 1 8 (.t 44) (.t 46)⟩,
    ⟨some 8, none, .mov (.t 47)⟩]) <|
 .seq (.reg [6] [⟨some 48, none, .mov (.t 8)⟩,
    ⟨some 49, none, .mov (.t 0)⟩,
    ⟨some 50, none, .mov (.t 7)⟩,
    ⟨some 51, none, .slc 1 (.t 49) (some (.t 50)) none⟩,
    ⟨some 52, none, .app 1 8 (.t 48) (.t 51)⟩,
    ⟨some 6, none, .mov (.t 52)⟩]) <|
 .ret⟩
def h65 : List (List Nat) := [[0, 1, 2], [0, 1, 2, 7], [0, 1, 2, 7], [0, 1, 2, 7], [0, 1, 2, 7, 20], [0, 1, 2, 7], [0, 1, 2, 7], [0, 1, 2, 7], [0, 1, 7, 37], [0, 1, 7], [6], [0, 1, 7, 8], [0, 7, 8], [6]]
theorem c65 : cFunc Try.prog 65 false h65 = some F65 := by kernel_rfl

def L66_0 : IC :=
 .seq (.reg [0, 3, 9, 10, 11, 12] [⟨some 12, none, .bin .lss (.t 11) (.t 10)⟩]) <|
 .seq (.cond [0, 3, 9, 10, 11] (.t 12)
   (.skip)
   (.exit 0)) <|
 .seq (.block [0, 3, 9, 10, 11] 1 <|
  .seq (.reg [0, 3, 5, 9, 10, 11] [⟨some 13, none, .iaddr 1 (.t 9) (.t 11)⟩,
     ⟨some 14, none, .load false 1 (.t 13)⟩,
     ⟨some 5, none, .mov (.t 14)⟩]) <|
  .seq (.reg [0, 3, 9, 10, 11] [⟨some 15, none, .mov (.t 3)⟩,
     ⟨some 16, none, .mov (.t 5)⟩,
     ⟨some 17, none, .len (.t 16)⟩,
     ⟨some 18, none, .bin .add (.t 15) (.t 17)⟩,
     ⟨some 3, none, .mov (.t 18)⟩]) <|
  .seq (.reg [0, 3, 9, 10, 11, 20] [⟨some 19, none, .mov (.t 3)⟩,
     ⟨some 20, none, .bin .lss (.t 19) (.c (.g (.int .i64 0)))⟩]) <|
  .cond [0, 3, 9, 10, 11] (.t 20)
   (.reg [0, 3, 9, 10, 11] [⟨some 21, none, .mkif 9 (.c (.g (.str [108, 101, 110, 32, 111, 117, 116, 32, 111, 102, 32, 114, 97, 110, 103, 101])))⟩,
      ⟨none, none, .row 0 []⟩])
   (.skip)) <|
 .reg [0, 3, 9, 10, 11] [⟨some 22, none, .bin .add (.t 11) (.c (.g (.int .i64 1)))⟩,
   ⟨some 11, none, .mov (.t 22)⟩]
def L66_1 : IC :=
 .seq (.reg [6, 25, 26, 27, 28] [⟨some 28, none, .bin .lss (.t 27) (.t 26)⟩]) <|
 .seq (.cond [6, 25, 26, 27] (.t 28)
   (.skip)
   (.exit 2)) <|
 .seq (.block [6, 25, 26, 27] 3 <|
  .seq (.reg [6, 8, 25, 26, 27] [⟨some 29, none, .iaddr 1 (.t 25) (.t 27)⟩,
     ⟨some 30, none, .load false 1 (.t 29)⟩,
     ⟨some 8, none, .mov (.t 30)⟩]) <|
  .reg [6, 25, 26, 27] [⟨some 31, none, .mov (.t 6)⟩,
    ⟨some 32, none, .mov (.t 8)⟩,
    ⟨some 33, none, .app 11 120 (.t 31) (.t 32)⟩,
    ⟨some 6, none, .mov (.t 33)⟩]) <|
 .reg [6, 25, 26, 27] [⟨some 34, none, .bin .add (.t 27) (.c (.g (.int .i64 1)))⟩,
   ⟨some 27, none, .mov (.t 34)⟩]
def F66 : IFunc := ⟨1, 36, [.tmp 2], true,
 .seq (.reg [0] [⟨some 2, none, .nres 11⟩]) <|
 .seq (.reg [0, 3] [⟨some 3, none, .mov (.c (.g (.int .i64 0)))⟩]) <|
 .seq (.seq (.reg [0, 3, 9, 10, 11] [⟨some 9, none, .mov (.t 0)⟩,
     ⟨some 10, none, .len (.t 9)⟩,
     ⟨some 11, none, .mov (.c (.g (.int .i64 0)))⟩]) <|
  .block [0, 3] 0 <|
  .loop [0, 3, 9, 10, 11] [] L66_0) <|
 .seq (.reg [0, 6] [⟨some 23, none, .mov (.t 3)⟩,
    ⟨some 24, none, .call (.c (.g (.fn 88))) [(.c (.g (.nsl))), (.t 23)]⟩,
    ⟨some 6, none, .mov (.t 24)⟩]) <|
 .seq (.seq (.reg [6, 25, 26, 27] [⟨some 25, none, .mov (.t 0)⟩,
     ⟨some 26, none, .len (.t 25)⟩,
     ⟨some 27, none, .mov (.c (.g (.int .i64 0)))⟩]) <|
  .block [6] 2 <|
  .loop [6, 25, 26, 27] [] L66_1) <|
 .seq (.reg [2] [⟨some 35, none, .mov (.t 6)⟩,
    ⟨some 2, none, .mov (.t 35)⟩]) <|
 .ret⟩
def h66 : List (List Nat) := [[0], [0, 3], [0, 3, 9, 10, 11], [0, 3], [0, 3, 9, 10, 11], [0, 3, 9, 10, 11, 12], [0, 3, 9, 10, 11], [0, 3, 9, 10, 11], [0, 3, 5, 9, 10, 11], [0, 3, 9, 10, 11], [0, 3, 9, 10, 11, 20], [0, 3, 9, 10, 11], [0, 3, 9, 10, 11], [0, 3, 9, 10, 11], [0, 6], [6, 25, 26, 27], [6], [6, 25, 26, 27], [6, 25, 26, 27, 28], [6, 25, 26, 27], [6, 25, 26, 27], [6, 8, 25, 26, 27], [6, 25, 26, 27], [6, 25, 26, 27], [2]]
theorem c66 : cFunc Try.prog 66 true h66 = some F66 := by kernel_rfl

def F67 : IFunc := ⟨3, 13, [.tmp 4], false,
 .seq (.reg [1, 2, 3] [⟨some 3, none, .box (.t 0)⟩,
    ⟨some 4, none, .mov (.c (.g (.bool false)))⟩]) <|
 .seq (.drw [4] 0 <|
  .take ⟨some 5, none, .load true 11 (.t 3)⟩ <|
  .take ⟨some 7, none, .load false 1 (.t 1)⟩ <|
  .take ⟨some 8, none, .load false 1 (.t 2)⟩ <|
  .take ⟨some 9, none, .iaddr 1 (.t 8) (.c (.g (.int .i64 0)))⟩ <|
  .take ⟨some 10, none, .load false 1 (.t 9)⟩ <|
  .take ⟨some 11, none, .build [.g (.int .i64 0), .g (.int .i64 0)] [(0, 1, (.t 7)), (1, 1, (.t 10))]⟩ <|
  .one ⟨some 6, none, .call (.c (.g (.fn 61))) [(.t 5)]⟩ <|
  .take ⟨some 12, none, .eqs false true [.i, .i] (.t 6) (.t 11)⟩ <|
  .free <|
  .take ⟨some 4, none, .mov (.t 12)⟩ <|
  .leaf) <|
 .ret⟩
def h67 : List (List Nat) := [[1, 2, 3], [4], []]
theorem c67 : cFunc Try.prog 67 false h67 = some F67 := by kernel_rfl

def F68 : IFunc := ⟨3, 33, [.tmp 6], false,
 .seq (.reg [0, 1, 2] [⟨some 6, none, .nres 11⟩]) <|
 .seq (.reg [0, 1, 2] [⟨some 8, none, .mov (.t 0)⟩,
    ⟨some 9, none, .mov (.t 1)⟩,
    ⟨some 10, none, .mov (.t 2)⟩,
    ⟨some 11, none, .mov (.t 0)⟩,
    ⟨some 12, none, .len (.t 11)⟩,
    ⟨some 13, none, .slc3 11 (.t 8) (some (.t 9)) (some (.t 10)) (some (.t 12))⟩]) <|
 .seq (.seq (.reg [0, 1, 2, 16] [⟨some 14, none, .mov (.t 1)⟩,
     ⟨some 15, none, .mov (.t 2)⟩,
     ⟨some 16, none, .bin .eql (.t 14) (.t 15)⟩]) <|
  .cond [0, 1, 2] (.t 16)
   (.seq (.reg [6] [⟨some 17, none, .mov (.t 0)⟩,
       ⟨some 6, none, .mov (.t 17)⟩]) <|
    .ret)
   (.skip)) <|
 .seq (.reg [0, 1, 2, 7] [⟨some 18, none, .mov (.t 0)⟩,
    ⟨some 19, none, .len (.t 18)⟩,
    ⟨some 7, none, .mov (.t 19)⟩]) <|
 .seq (.drw [0, 7] 0 <|
  .free <|
  .take ⟨some 20, none, .mov (.t 0)⟩ <|
  .take ⟨some 21, none, .mov (.t 1)⟩ <|
  .take ⟨some 22, none, .slc 11 (.t 20) none (some (.t 21))⟩ <|
  .take ⟨some 23, none, .mov (.t 0)⟩ <|
  .take ⟨some 24, none, .mov (.t 2)⟩ <|
  .take ⟨some 25, none, .slc 11 (.t 23) (some (.t 24)) none⟩ <|
  .one ⟨some 26, none, .app 11 120 (.t 22) (.t 25)⟩ <|
  .take ⟨some 0, none, .mov (.t 26)⟩ <|
  .leaf) <|
 .seq (.reg [0] [⟨some 27, none, .mov (.t 0)⟩,
    ⟨some 28, none, .mov (.t 0)⟩,
    ⟨some 29, none, .len (.t 28)⟩,
    ⟨some 30, none, .mov (.t 7)⟩,
    ⟨some 31, none, .slc 11 (.t 27) (some (.t 29)) (some (.t 30))⟩,
    ⟨none, none, .clear [.int .i64 0, .int .i64 0, .int .i64 0, .int .i64 0, .int .i64 0, .int .i64 0, .int .i64 0, .int .i64 0, .bool false, .nsl, .nsl] (.t 31)⟩]) <|
 .seq (.reg [6] [⟨some 32, none, .mov (.t 0)⟩,
    ⟨some 6, none, .mov (.t 32)⟩]) <|
 .ret⟩
def h68 : List (List Nat) := [[0, 1, 2], [0, 1, 2], [0, 1, 2, 16], [0, 1, 2], [6], [0, 1, 2, 7], [0, 7], [], [0], [6]]
theorem c68 : cFunc Try.prog 68 false h68 = some F68 := by kernel_rfl

def F69 : IFunc := ⟨3, 34, [.tmp 6], false,
 .seq (.reg [0, 2, 4] [⟨some 4, none, .box (.t 1)⟩,
    ⟨some 6, none, .nres 2⟩]) <|
 .seq (.reg [0, 2, 4, 7] [⟨some 8, none, .mov (.t 0)⟩,
    ⟨some 9, none, .mkfn 90 [(.t 4)]⟩,
    ⟨some 10, none, .call (.c (.g (.fn 89))) [(.t 8), (.t 9)]⟩,
    ⟨some 7, none, .mov (.t 10)⟩]) <|
 .seq (.seq (.reg [0, 2, 4, 7, 12] [⟨some 11, none, .mov (.t 7)⟩,
     ⟨some 12, none, .bin .lss (.t 11) (.c (.g (.int .i64 0)))⟩]) <|
  .cond [0, 2, 7] (.t 12)
   (.seq (.reg [6] [⟨some 13, none, .mov (.t 0)⟩,
       ⟨some 14, none, .load false 1 (.t 4)⟩,
       ⟨some 15, none, .mov (.t 2)⟩,
       ⟨some 16, none, .build [.g (.int .i64 0), .g (.int .i64 0)] [(0, 1, (.t 14)), (1, 1, (.t 15))]⟩,
       ⟨some 17, none, .bslice 2 1 [.int .i64 0, .int .i64 0] [(0, 2, (.t 16))]⟩,
       ⟨some 18, none, .bslice 1 2 [.nsl] [(0, 1, (.t 13)), (1, 1, (.t 17))]⟩,
       ⟨some 19, none, .call (.c (.g (.fn 91))) [(.t 18)]⟩,
       ⟨some 6, none, .mov (.t 19)⟩]) <|
    .ret)
   (.skip)) <|
 .seq (.reg [0, 2, 7] [⟨some 20, none, .mov (.t 0)⟩,
    ⟨some 21, none, .call (.c (.g (.fn 92))) [(.t 20)]⟩,
    ⟨some 0, none, .mov (.t 21)⟩]) <|
 .seq (.reg [0] [⟨some 22, none, .mov (.t 0)⟩,
    ⟨some 23, none, .mov (.t 7)⟩,
    ⟨some 24, none, .mov (.t 0)⟩,
    ⟨some 25, none, .mov (.t 7)⟩,
    ⟨some 26, none, .iaddr 2 (.t 24) (.t 25)⟩,
    ⟨some 27, none, .faddr 1 (.t 26)⟩,
    ⟨some 28, none, .load false 1 (.t 27)⟩,
    ⟨some 29, none, .mov (.t 2)⟩,
    ⟨some 30, none, .mx (.t 28) [(.t 29)]⟩,
    ⟨some 31, none, .iaddr 2 (.t 22) (.t 23)⟩,
    ⟨some 32, none, .faddr 1 (.t 31)⟩,
    ⟨none, none, .store 1 (.t 32) (.t 30)⟩]) <|
 .seq (.reg [6] [⟨some 33, none, .mov (.t 0)⟩,
    ⟨some 6, none, .mov (.t 33)⟩]) <|
 .ret⟩
def h69 : List (List Nat) := [[0, 2, 4], [0, 2, 4, 7], [0, 2, 4, 7, 12], [0, 2, 7], [6], [0, 2, 7], [0], [6]]
theorem c69 : cFunc Try.prog 69 false h69 = some F69 := by kernel_rfl

def L70_0 : IC :=
 .seq (.seq (.reg [1, 2, 5, 6, 11] [⟨some 7, none, .mov (.t 6)⟩,
     ⟨some 8, none, .faddr 0 (.t 2)⟩,
     ⟨some 9, none, .load false 1 (.t 8)⟩,
     ⟨some 10, none, .len (.t 9)⟩,
     ⟨some 11, none, .bin .lss (.t 7) (.t 10)⟩]) <|
  .cond [1, 2, 5, 6] (.t 11)
   (.skip)
   (.exit 0)) <|
 .seq (.block [1, 2, 5, 6] 1 <|
  .seq (.reg [1, 2, 5, 6, 21] [⟨some 14, none, .faddr 0 (.t 2)⟩,
     ⟨some 15, none, .load false 1 (.t 14)⟩,
     ⟨some 16, none, .mov (.t 6)⟩,
     ⟨some 17, none, .iaddr 11 (.t 15) (.t 16)⟩,
     ⟨some 18, none, .faddr 0 (.t 17)⟩,
     ⟨some 19, none, .load false 1 (.t 18)⟩,
     ⟨some 20, none, .mov (.t 1)⟩,
     ⟨some 21, none, .bin .eql (.t 19) (.t 20)⟩]) <|
  .cond [1, 2, 5, 6] (.t 21)
   (.reg [1, 2, 5, 6] [⟨some 22, none, .mov (.t 5)⟩,
      ⟨some 23, none, .faddr 0 (.t 2)⟩,
      ⟨some 24, none, .load false 1 (.t 23)⟩,
      ⟨some 25, none, .mov (.t 6)⟩,
      ⟨some 26, none, .iaddr 11 (.t 24) (.t 25)⟩,
      ⟨some 27, none, .faddr 1 (.t 26)⟩,
      ⟨some 28, none, .load false 1 (.t 27)⟩,
      ⟨some 29, none, .call (.c (.g (.fn 65))) [(.t 22), (.t 28), (.c (.g (.bool false)))]⟩,
      ⟨some 5, none, .mov (.t 29)⟩])
   (.skip)) <|
 .reg [1, 2, 5, 6] [⟨some 12, none, .mov (.t 6)⟩,
   ⟨some 13, none, .bin .add (.t 12) (.c (.g (.int .i64 1)))⟩,
   ⟨some 6, none, .mov (.t 13)⟩]
def F70 : IFunc := ⟨2, 31, [.tmp 4], false,
 .seq (.reg [1, 2] [⟨some 2, none, .box (.t 0)⟩,
    ⟨some 4, none, .nres 1⟩]) <|
 .seq (.reg [1, 2, 5] [⟨some 5, none, .nres 1⟩]) <|
 .seq (.seq (.reg [1, 2, 5, 6] [⟨some 6, none, .mov (.c (.g (.int .i64 0)))⟩]) <|
  .block [5] 0 <|
  .loop [1, 2, 5, 6] [] L70_0) <|
 .seq (.reg [4] [⟨some 30, none, .mov (.t 5)⟩,
    ⟨some 4, none, .mov (.t 30)⟩]) <|
 .ret⟩
def h70 : List (List Nat) := [[1, 2], [1, 2, 5], [1, 2, 5, 6], [5], [1, 2, 5, 6], [1, 2, 5, 6, 11], [1, 2, 5, 6], [1, 2, 5, 6], [1, 2, 5, 6, 21], [1, 2, 5, 6], [1, 2, 5, 6], [1, 2, 5, 6], [4]]
theorem c70 : cFunc Try.prog 70 false h70 = some F70 := by kernel_rfl

def F73 : IFunc := ⟨1, 4, [.tmp 2], true,
 .seq (.reg [1] [⟨some 1, none, .box (.t 0)⟩,
    ⟨some 2, none, .mov (.c (.g (.nfn)))⟩]) <|
 .seq (.reg [2] [⟨some 3, none, .mkfn 96 [(.t 1)]⟩,
    ⟨some 2, none, .mov (.t 3)⟩]) <|
 .ret⟩
def h73 : List (List Nat) := [[1], [2]]
theorem c73 : cFunc Try.prog 73 true h73 = some F73 := by kernel_rfl

def L87_0 : IC :=
 .seq (.reg [0, 1, 7, 8, 9] [⟨some 9, none, .bin .lss (.t 8) (.t 7)⟩]) <|
 .seq (.cond [0, 1, 7, 8] (.t 9)
   (.skip)
   (.exit 0)) <|
 .seq (.block [0, 1, 7, 8] 1 <|
  .seq (.reg [0, 1, 5, 7, 8] [⟨some 10, none, .mov (.t 8)⟩,
     ⟨some 5, none, .mov (.t 10)⟩]) <|
  .seq (.reg [0, 1, 5, 7, 8, 16] [⟨some 11, none, .mov (.t 1)⟩,
     ⟨some 12, none, .mov (.t 0)⟩,
     ⟨some 13, none, .mov (.t 5)⟩,
     ⟨some 14, none, .iaddr 1 (.t 12) (.t 13)⟩,
     ⟨some 15, none, .load false 1 (.t 14)⟩,
     ⟨some 16, none, .bin .eql (.t 11) (.t 15)⟩]) <|
  .cond [0, 1, 7, 8] (.t 16)
   (.seq (.reg [4] [⟨some 17, none, .mov (.t 5)⟩,
       ⟨some 4, none, .mov (.t 17)⟩]) <|
    .ret)
   (.skip)) <|
 .reg [0, 1, 7, 8] [⟨some 18, none, .bin .add (.t 8) (.c (.g (.int .i64 1)))⟩,
   ⟨some 8, none, .mov (.t 18)⟩]
def F87 : IFunc := ⟨2, 19, [.tmp 4], false,
 .seq (.reg [0, 1] [⟨some 4, none, .mov (.c (.g (.int .i64 0)))⟩]) <|
 .seq (.seq (.reg [0, 1, 7, 8] [⟨some 6, none, .mov (.t 0)⟩,
     ⟨some 7, none, .len (.t 6)⟩,
     ⟨some 8, none, .mov (.c (.g (.int .i64 0)))⟩]) <|
  .block [] 0 <|
  .loop [0, 1, 7, 8] [] L87_0) <|
 .seq (.reg [4] [⟨some 4, none, .mov (.c (.g (.int .i64 (-1))))⟩]) <|
 .ret⟩
def h87 : List (List Nat) := [[0, 1], [0, 1, 7, 8], [], [0, 1, 7, 8], [0, 1, 7, 8, 9], [0, 1, 7, 8], [0, 1, 7, 8], [0, 1, 5, 7, 8], [0, 1, 5, 7, 8, 16], [0, 1, 7, 8], [4], [0, 1, 7, 8], [4]]
theorem c87 : cFunc Try.prog 87 false h87 = some F87 := by kernel_rfl

def F88 : IFunc := ⟨2, 27, [.tmp 4], true,
 .seq (.reg [0, 1] [⟨some 4, none, .nres 11⟩]) <|
 .seq (.seq (.reg [0, 1, 6] [⟨some 5, none, .mov (.t 1)⟩,
     ⟨some 6, none, .bin .lss (.t 5) (.c (.g (.int .i64 0)))⟩]) <|
  .cond [0, 1] (.t 6)
   (.reg [0, 1] [⟨some 7, none, .mkif 9 (.c (.g (.str [99, 97, 110, 110, 111, 116, 32, 98, 101, 32, 110, 101, 103, 97, 116, 105, 118, 101])))⟩,
      ⟨none, none, .row 0 []⟩])
   (.skip)) <|
 .seq (.seq (.reg [0, 1] [⟨some 8, none, .mov (.t 1)⟩,
     ⟨some 9, none, .mov (.t 0)⟩,
     ⟨some 10, none, .cap (.t 9)⟩,
     ⟨some 11, none, .mov (.t 0)⟩,
     ⟨some 12, none, .len (.t 11)⟩,
     ⟨some 13, none, .bin .sub (.t 10) (.t 12)⟩,
     ⟨some 14, none, .bin .sub (.t 8) (.t 13)⟩,
     ⟨some 1, none, .mov (.t 14)⟩]) <|
  .seq (.reg [0, 1, 16] [⟨some 15, none, .mov (.t 1)⟩,
     ⟨some 16, none, .bin .gtr (.t 15) (.c (.g (.int .i64 0)))⟩]) <|
  .cond [0] (.t 16)
   (.reg [0] [⟨some 17, none, .mov (.t 0)⟩,
      ⟨some 18, none, .mov (.t 0)⟩,
      ⟨some 19, none, .cap (.t 18)⟩,
      ⟨some 20, none, .slc 11 (.t 17) none (some (.t 19))⟩,
      ⟨some 21, none, .mov (.t 1)⟩,
      ⟨some 22, none, .appZ 11 120 [.int .i64 0, .int .i64 0, .int .i64 0, .int .i64 0, .int .i64 0, .int .i64 0, .int .i64 0, .int .i64 0, .bool false, .nsl, .nsl] (.t 20) (.t 21)⟩,
      ⟨some 23, none, .mov (.t 0)⟩,
      ⟨some 24, none, .len (.t 23)⟩,
      ⟨some 25, none, .slc 11 (.t 22) none (some (.t 24))⟩,
      ⟨some 0, none, .mov (.t 25)⟩])
   (.skip)) <|
 .seq (.reg [4] [⟨some 26, none, .mov (.t 0)⟩,
    ⟨some 4, none, .mov (.t 26)⟩]) <|
 .ret⟩
def h88 : List (List Nat) := [[0, 1], [0, 1, 6], [0, 1], [0, 1], [0, 1], [0, 1, 16], [0], [0], [4]]
theorem c88 : cFunc Try.prog 88 true h88 = some F88 := by kernel_rfl

def L89_0 : IC :=
 .seq (.reg [0, 1, 7, 8, 9] [⟨some 9, none, .bin .lss (.t 8) (.t 7)⟩]) <|
 .seq (.cond [0, 1, 7, 8] (.t 9)
   (.skip)
   (.exit 0)) <|
 .seq (.block [0, 1, 7, 8] 1 <|
  .seq (.reg [0, 1, 5, 7, 8] [⟨some 10, none, .mov (.t 8)⟩,
     ⟨some 5, none, .mov (.t 10)⟩]) <|
  .seq (.reg [0, 1, 5, 7, 8, 16] [⟨some 11, none, .mov (.t 1)⟩,
     ⟨some 12, none, .mov (.t 0)⟩,
     ⟨some 13, none, .mov (.t 5)⟩,
     ⟨some 14, none, .iaddr 2 (.t 12) (.t 13)⟩,
     ⟨some 15, none, .load true 2 (.t 14)⟩,
     ⟨some 16, none, .call (.t 11) [(.t 15)]⟩]) <|
  .cond [0, 1, 7, 8] (.t 16)
   (.seq (.reg [4] [⟨some 17, none, .mov (.t 5)⟩,
       ⟨some 4, none, .mov (.t 17)⟩]) <|
    .ret)
   (.skip)) <|
 .reg [0, 1, 7, 8] [⟨some 18, none, .bin .add (.t 8) (.c (.g (.int .i64 1)))⟩,
   ⟨some 8, none, .mov (.t 18)⟩]
def F89 : IFunc := ⟨2, 19, [.tmp 4], false,
 .seq (.reg [0, 1] [⟨some 4, none, .mov (.c (.g (.int .i64 0)))⟩]) <|
 .seq (.seq (.reg [0, 1, 7, 8] [⟨some 6, none, .mov (.t 0)⟩,
     ⟨some 7, none, .len (.t 6)⟩,
     ⟨some 8, none, .mov (.c (.g (.int .i64 0)))⟩]) <|
  .block [] 0 <|
  .loop [0, 1, 7, 8] [] L89_0) <|
 .seq (.reg [4] [⟨some 4, none, .mov (.c (.g (.int .i64 (-1))))⟩]) <|
 .ret⟩
def h89 : List (List Nat) := [[0, 1], [0, 1, 7, 8], [], [0, 1, 7, 8], [0, 1, 7, 8, 9], [0, 1, 7, 8], [0, 1, 7, 8], [0, 1, 5, 7, 8], [0, 1, 5, 7, 8, 16], [0, 1, 7, 8], [4], [0, 1, 7, 8], [4]]
theorem c89 : cFunc Try.prog 89 false h89 = some F89 := by kernel_rfl

def F90 : IFunc := ⟨2, 8, [.tmp 3], false,
 .seq (.reg [1, 2] [⟨some 2, none, .box (.t 0)⟩,
    ⟨some 3, none, .mov (.c (.g (.bool false)))⟩]) <|
 .seq (.reg [3] [⟨some 4, none, .faddr 0 (.t 2)⟩,
    ⟨some 5, none, .load false 1 (.t 4)⟩,
    ⟨some 6, none, .load false 1 (.t 1)⟩,
    ⟨some 7, none, .bin .eql (.t 5) (.t 6)⟩,
    ⟨some 3, none, .mov (.t 7)⟩]) <|
 .ret⟩
def h90 : List (List Nat) := [[1, 2], [3]]
theorem c90 : cFunc Try.prog 90 false h90 = some F90 := by kernel_rfl

def L91_0 : IC :=
 .seq (.reg [0, 3, 9, 10, 11, 12] [⟨some 12, none, .bin .lss (.t 11) (.t 10)⟩]) <|
 .seq (.cond [0, 3, 9, 10, 11] (.t 12)
   (.skip)
   (.exit 0)) <|
 .seq (.block [0, 3, 9, 10, 11] 1 <|
  .seq (.reg [0, 3, 5, 9, 10, 11] [⟨some 13, none, .iaddr 1 (.t 9) (.t 11)⟩,
     ⟨some 14, none, .load false 1 (.t 13)⟩,
     ⟨some 5, none, .mov (.t 14)⟩]) <|
  .seq (.reg [0, 3, 9, 10, 11] [⟨some 15, none, .mov (.t 3)⟩,
     ⟨some 16, none, .mov (.t 5)⟩,
     ⟨some 17, none, .len (.t 16)⟩,
     ⟨some 18, none, .bin .add (.t 15) (.t 17)⟩,
     ⟨some 3, none, .mov (.t 18)⟩]) <|
  .seq (.reg [0, 3, 9, 10, 11, 20] [⟨some 19, none, .mov (.t 3)⟩,
     ⟨some 20, none, .bin .lss (.t 19) (.c (.g (.int .i64 0)))⟩]) <|
  .cond [0, 3, 9, 10, 11] (.t 20)
   (.reg [0, 3, 9, 10, 11] [⟨some 21, none, .mkif 9 (.c (.g (.str [108, 101, 110, 32, 111, 117, 116, 32, 111, 102, 32, 114, 97, 110, 103, 101])))⟩,
      ⟨none, none, .row 0 []⟩])
   (.skip)) <|
 .reg [0, 3, 9, 10, 11] [⟨some 22, none, .bin .add (.t 11) (.c (.g (.int .i64 1)))⟩,
   ⟨some 11, none, .mov (.t 22)⟩]
def L91_1 : IC :=
 .seq (.reg [6, 25, 26, 27, 28] [⟨some 28, none, .bin .lss (.t 27) (.t 26)⟩]) <|
 .seq (.cond [6, 25, 26, 27] (.t 28)
   (.skip)
   (.exit 2)) <|
 .seq (.block [6, 25, 26, 27] 3 <|
  .seq (.reg [6, 8, 25, 26, 27] [⟨some 29, none, .iaddr 1 (.t 25) (.t 27)⟩,
     ⟨some 30, none, .load false 1 (.t 29)⟩,
     ⟨some 8, none, .mov (.t 30)⟩]) <|
  .reg [6, 25, 26, 27] [⟨some 31, none, .mov (.t 6)⟩,
    ⟨some 32, none, .mov (.t 8)⟩,
    ⟨some 33, none, .app 2 16 (.t 31) (.t 32)⟩,
    ⟨some 6, none, .mov (.t 33)⟩]) <|
 .reg [6, 25, 26, 27] [⟨some 34, none, .bin .add (.t 27) (.c (.g (.int .i64 1)))⟩,
   ⟨some 27, none, .mov (.t 34)⟩]
def F91 : IFunc := ⟨1, 36, [.tmp 2], false,
 .seq (.reg [0] [⟨some 2, none, .nres 2⟩]) <|
 .seq (.reg [0, 3] [⟨some 3, none, .mov (.c (.g (.int .i64 0)))⟩]) <|
 .seq (.seq (.reg [0, 3, 9, 10, 11] [⟨some 9, none, .mov (.t 0)⟩,
     ⟨some 10, none, .len (.t 9)⟩,
     ⟨some 11, none, .mov (.c (.g (.int .i64 0)))⟩]) <|
  .block [0, 3] 0 <|
  .loop [0, 3, 9, 10, 11] [] L91_0) <|
 .seq (.reg [0, 6] [⟨some 23, none, .mov (.t 3)⟩,
    ⟨some 24, none, .call (.c (.g (.fn 105))) [(.c (.g (.nsl))), (.t 23)]⟩,
    ⟨some 6, none, .mov (.t 24)⟩]) <|
 .seq (.seq (.reg [6, 25, 26, 27] [⟨some 25, none, .mov (.t 0)⟩,
     ⟨some 26, none, .len (.t 25)⟩,
     ⟨some 27, none, .mov (.c (.g (.int .i64 0)))⟩]) <|
  .block [6] 2 <|
  .loop [6, 25, 26, 27] [] L91_1) <|
 .seq (.reg [2] [⟨some 35, none, .mov (.t 6)⟩,
    ⟨some 2, none, .mov (.t 35)⟩]) <|
 .ret⟩
def h91 : List (List Nat) := [[0], [0, 3], [0, 3, 9, 10, 11], [0, 3], [0, 3, 9, 10, 11], [0, 3, 9, 10, 11, 12], [0, 3, 9, 10, 11], [0, 3, 9, 10, 11], [0, 3, 5, 9, 10, 11], [0, 3, 9, 10, 11], [0, 3, 9, 10, 11, 20], [0, 3, 9, 10, 11], [0, 3, 9, 10, 11], [0, 3, 9, 10, 11], [0, 6], [6, 25, 26, 27], [6], [6, 25, 26, 27], [6, 25, 26, 27, 28], [6, 25, 26, 27], [6, 25, 26, 27], [6, 8, 25, 26, 27], [6, 25, 26, 27], [6, 25, 26, 27], [2]]
theorem c91 : cFunc Try.prog 91 false h91 = some F91 := by kernel_rfl

def F92 : IFunc := ⟨1, 8, [.tmp 2], true,
 .seq (.reg [0] [⟨some 2, none, .nres 2⟩]) <|
 .seq (.seq (.reg [0, 4] [⟨some 3, none, .mov (.t 0)⟩,
     ⟨some 4, none, .isnilS false (.t 3)⟩]) <|
  .cond [0] (.t 4)
   (.seq (.reg [2] [⟨some 2, none, .nres 2⟩]) <|
    .ret)
   (.skip)) <|
 .seq (.reg [2] [⟨some 5, none, .mk0 2⟩,
    ⟨some 6, none, .mov (.t 0)⟩,
    ⟨some 7, none, .app 2 16 (.t 5) (.t 6)⟩,
    ⟨some 2, none, .mov (.t 7)⟩]) <|
 .ret⟩
def h92 : List (List Nat) := [[0], [0, 4], [0], [2], [2]]
theorem c92 : cFunc Try.prog 92 true h92 = some F92 := by kernel_rfl

def F105 : IFunc := ⟨2, 27, [.tmp 4], true,
 .seq (.reg [0, 1] [⟨some 4, none, .nres 2⟩]) <|
 .seq (.seq (.reg [0, 1, 6] [⟨some 5, none, .mov (.t 1)⟩,
     ⟨some 6, none, .bin .lss (.t 5) (.c (.g (.int .i64 0)))⟩]) <|
  .cond [0, 1] (.t 6)
   (.reg [0, 1] [⟨some 7, none, .mkif 9 (.c (.g (.str [99, 97, 110, 110, 111, 116, 32, 98, 101, 32, 110, 101, 103, 97, 116, 105, 118, 101])))⟩,
      ⟨none, none, .row 0 []⟩])
   (.skip)) <|
 .seq (.seq (.reg [0, 1] [⟨some 8, none, .mov (.t 1)⟩,
     ⟨some 9, none, .mov (.t 0)⟩,
     ⟨some 10, none, .cap (.t 9)⟩,
     ⟨some 11, none, .mov (.t 0)⟩,
     ⟨some 12, none, .len (.t 11)⟩,
     ⟨some 13, none, .bin .sub (.t 10) (.t 12)⟩,
     ⟨some 14, none, .bin .sub (.t 8) (.t 13)⟩,
     ⟨some 1, none, .mov (.t 14)⟩]) <|
  .seq (.reg [0, 1, 16] [⟨some 15, none, .mov (.t 1)⟩,
     ⟨some 16, none, .bin .gtr (.t 15) (.c (.g (.int .i64 0)))⟩]) <|
  .cond [0] (.t 16)
   (.reg [0] [⟨some 17, none, .mov (.t 0)⟩,
      ⟨some 18, none, .mov (.t 0)⟩,
      ⟨some 19, none, .cap (.t 18)⟩,
      ⟨some 20, none, .slc 2 (.t 17) none (some (.t 19))⟩,
      ⟨some 21, none, .mov (.t 1)⟩,
      ⟨some 22, none, .appZ 2 16 [.int .i64 0, .int .i64 0] (.t 20) (.t 21)⟩,
      ⟨some 23, none, .mov (.t 0)⟩,
      ⟨some 24, none, .len (.t 23)⟩,
      ⟨some 25, none, .slc 2 (.t 22) none (some (.t 24))⟩,
      ⟨some 0, none, .mov (.t 25)⟩])
   (.skip)) <|
 .seq (.reg [4] [⟨some 26, none, .mov (.t 0)⟩,
    ⟨some 4, none, .mov (.t 26)⟩]) <|
 .ret⟩
def h105 : List (List Nat) := [[0, 1], [0, 1, 6], [0, 1], [0, 1], [0, 1], [0, 1, 16], [0], [0], [4]]
theorem c105 : cFunc Try.prog 105 true h105 = some F105 := by kernel_rfl

end
end Go.Proofs.Ytibnbcljmfigfaa
