/- The compiled functions of the seat, part IRz. No conditions. -/
import Derived.Test.YtenndgooepdmiaaGreatDoorAMJ4
import Derived.Test.YtenndgooepdmiaaGreatDoorProg
import Derived.KernelRfl
namespace Go.Proofs.YtenndgooepdmiaaGreatDoor
open Go Go.AM Go.Proofs
noncomputable section
/-- baton/batonlaw20.FenceDoes -/
def F3 : IFunc := ⟨3, 60, [.tmp 6], false,
 .seq (.reg [1, 2, 3] [⟨(some 3), none, .box (.t 0)⟩,
    ⟨(some 6), none, .mov (.c (.g (.bool false)))⟩]) <|
 .seq (.seq (.reg [1, 2, 3, 19] [⟨(some 11), none, .faddr 2 (.t 3)⟩,
     ⟨(some 12), none, .load false 1 (.t 11)⟩,
     ⟨(some 13), none, .len (.t 12)⟩,
     ⟨(some 14), none, .bin .gtr (.t 13) (.c (.g (.int .i64 60)))⟩,
     ⟨(some 15), none, .mov (.t 14)⟩,
     ⟨(some 16), (some (15, false)), .mov (.t 1)⟩,
     ⟨(some 17), (some (15, false)), .lenS (.t 16)⟩,
     ⟨(some 18), (some (15, false)), .bin .gtr (.t 17) (.c (.g (.int .i64 600)))⟩,
     ⟨(some 19), none, .pick (.t 15) (.c (.g (.bool true))) (.t 18)⟩]) <|
  .cond [1, 2, 3] (.t 19)
   (.seq (.reg [6] [⟨(some 20), none, .call (.c (.g (.fn 4))) []⟩,
       ⟨(some 6), none, .mov (.t 20)⟩]) <|
    .ret)
   (.skip)) <|
 .seq (.reg [1, 2, 3, 7, 8] [⟨(some 22), none, .load true 3 (.t 3)⟩,
    ⟨(some 23), none, .mov (.t 1)⟩,
    ⟨(some 24), none, .call (.c (.g (.fn 5))) [(.t 22), (.t 23)]⟩,
    ⟨(some 21), none, .mov (.t 24)⟩,
    ⟨(some 25), none, .ext 0 (.t 21)⟩,
    ⟨(some 26), none, .ext 1 (.t 21)⟩,
    ⟨(some 7), none, .alloc [.z (.int .i64 0), .z (.str []), .s 3]⟩,
    ⟨none, none, .store 3 (.t 7) (.t 25)⟩,
    ⟨(some 8), none, .mov (.t 26)⟩]) <|
 .seq (.reg [2, 3, 7, 8, 9, 10] [⟨(some 28), none, .load true 3 (.t 3)⟩,
    ⟨(some 29), none, .mov (.t 1)⟩,
    ⟨(some 30), none, .call (.c (.g (.fn 6))) [(.t 28), (.t 29)]⟩,
    ⟨(some 27), none, .mov (.t 30)⟩,
    ⟨(some 31), none, .ext 0 (.t 27)⟩,
    ⟨(some 32), none, .ext 1 (.t 27)⟩,
    ⟨(some 9), none, .alloc [.z (.int .i64 0), .z (.str []), .s 3]⟩,
    ⟨none, none, .store 3 (.t 9) (.t 31)⟩,
    ⟨(some 10), none, .mov (.t 32)⟩]) <|
 .seq (.drw [6] 0 <|
  .hold [3, 7, 9] <|
  .take ⟨(some 33), none, .load true 3 (.t 7)⟩ <|
  .take ⟨(some 34), none, .load true 3 (.t 9)⟩ <|
  .one ⟨(some 35), none, .call (.c (.g (.fn 7))) [(.t 33), (.t 34)]⟩ <|
  .take ⟨(some 36), none, .mov (.t 35)⟩ <|
  .take ⟨(some 37), (some (36, true)), .mov (.t 8)⟩ <|
  .take ⟨(some 38), (some (36, true)), .mov (.t 10)⟩ <|
  .take ⟨(some 39), (some (36, true)), .bin .eql (.t 37) (.t 38)⟩ <|
  .take ⟨(some 40), none, .pick (.t 36) (.t 39) (.c (.g (.bool false)))⟩ <|
  .take ⟨(some 41), none, .mov (.t 40)⟩ <|
  .take ⟨(some 42), (some (41, true)), .load true 3 (.t 3)⟩ <|
  .take ⟨(some 44), (some (41, true)), .load true 3 (.t 3)⟩ <|
  .one ⟨(some 43), (some (41, true)), .call (.c (.g (.fn 9))) [(.t 42)]⟩ <|
  .one ⟨(some 45), (some (41, true)), .call (.c (.g (.fn 10))) [(.t 44)]⟩ <|
  .one ⟨(some 46), (some (41, true)), .call (.c (.g (.fn 8))) [(.t 43), (.t 45)]⟩ <|
  .take ⟨(some 47), none, .pick (.t 41) (.t 46) (.c (.g (.bool false)))⟩ <|
  .take ⟨(some 48), none, .mov (.t 47)⟩ <|
  .take ⟨(some 49), (some (48, true)), .load true 3 (.t 3)⟩ <|
  .take ⟨(some 50), (some (48, true)), .mov (.t 2)⟩ <|
  .take ⟨(some 52), (some (48, true)), .load true 3 (.t 3)⟩ <|
  .take ⟨(some 53), (some (48, true)), .mov (.t 2)⟩ <|
  .one ⟨(some 51), (some (48, true)), .call (.c (.g (.fn 11))) [(.t 49), (.t 50)]⟩ <|
  .one ⟨(some 54), (some (48, true)), .call (.c (.g (.fn 12))) [(.t 52), (.t 53)]⟩ <|
  .one ⟨(some 55), (some (48, true)), .call (.c (.g (.fn 8))) [(.t 51), (.t 54)]⟩ <|
  .take ⟨(some 56), none, .pick (.t 48) (.t 55) (.c (.g (.bool false)))⟩ <|
  .take ⟨(some 57), none, .mov (.t 56)⟩ <|
  .one ⟨(some 58), (some (57, true)), .call (.c (.g (.fn 4))) []⟩ <|
  .take ⟨(some 59), none, .pick (.t 57) (.t 58) (.c (.g (.bool false)))⟩ <|
  .free <|
  .take ⟨(some 6), none, .mov (.t 59)⟩ <|
  .leaf) <|
 .ret⟩
def h3 : List (List Nat) := [[1, 2, 3], [1, 2, 3, 19], [1, 2, 3], [6], [1, 2, 3, 7, 8], [2, 3, 7, 8, 9, 10], [6], [3, 7, 9]]
theorem c3 : cFunc Tryz.prog 3 false h3 = some F3 := by kernel_rfl

/-- baton/batonlaw20.live -/
def F4 : IFunc := ⟨0, 124, [.tmp 0], false,
 .seq (.reg [] [⟨(some 0), none, .mov (.c (.g (.bool false)))⟩]) <|
 .seq (.reg [1, 2] [⟨(some 18), none, .build [.g (.int .i64 0), .g (.str []), .g (.nsl)] []⟩,
    ⟨(some 19), none, .call (.c (.g (.fn 13))) [(.t 18), (.c (.g (.int .i64 7))), (.c (.g (.int .i64 3))), (.c (.g (.str [120])))]⟩,
    ⟨(some 17), none, .mov (.t 19)⟩,
    ⟨(some 20), none, .ext 0 (.t 17)⟩,
    ⟨(some 21), none, .ext 1 (.t 17)⟩,
    ⟨(some 1), none, .alloc [.z (.int .i64 0), .z (.str []), .s 3]⟩,
    ⟨none, none, .store 3 (.t 1) (.t 20)⟩,
    ⟨(some 2), none, .mov (.t 21)⟩]) <|
 .seq (.reg [2, 3, 4] [⟨(some 23), none, .load true 3 (.t 1)⟩,
    ⟨(some 24), none, .call (.c (.g (.fn 13))) [(.t 23), (.c (.g (.int .i64 8))), (.c (.g (.int .i64 5))), (.c (.g (.str [121])))]⟩,
    ⟨(some 22), none, .mov (.t 24)⟩,
    ⟨(some 25), none, .ext 0 (.t 22)⟩,
    ⟨(some 26), none, .ext 1 (.t 22)⟩,
    ⟨(some 3), none, .alloc [.z (.int .i64 0), .z (.str []), .s 3]⟩,
    ⟨none, none, .store 3 (.t 3) (.t 25)⟩,
    ⟨(some 4), none, .mov (.t 26)⟩]) <|
 .seq (.reg [2, 3, 4, 5, 6] [⟨(some 28), none, .load true 3 (.t 3)⟩,
    ⟨(some 29), none, .call (.c (.g (.fn 13))) [(.t 28), (.c (.g (.int .i64 7))), (.c (.g (.int .i64 4))), (.c (.g (.str [122])))]⟩,
    ⟨(some 27), none, .mov (.t 29)⟩,
    ⟨(some 30), none, .ext 0 (.t 27)⟩,
    ⟨(some 31), none, .ext 1 (.t 27)⟩,
    ⟨(some 5), none, .alloc [.z (.int .i64 0), .z (.str []), .s 3]⟩,
    ⟨none, none, .store 3 (.t 5) (.t 30)⟩,
    ⟨(some 6), none, .mov (.t 31)⟩]) <|
 .seq (.reg [2, 3, 4, 5, 6, 8] [⟨(some 33), none, .load true 3 (.t 3)⟩,
    ⟨(some 34), none, .call (.c (.g (.fn 13))) [(.t 33), (.c (.g (.int .i64 7))), (.c (.g (.int .i64 0))), (.c (.g (.str [122])))]⟩,
    ⟨(some 32), none, .mov (.t 34)⟩,
    ⟨(some 35), none, .ext 0 (.t 32)⟩,
    ⟨(some 36), none, .ext 1 (.t 32)⟩,
    ⟨(some 7), none, .alloc [.z (.int .i64 0), .z (.str []), .s 3]⟩,
    ⟨none, none, .store 3 (.t 7) (.t 35)⟩,
    ⟨(some 8), none, .mov (.t 36)⟩]) <|
 .seq (.reg [2, 3, 4, 5, 6, 8, 9] [⟨(some 38), none, .build [.g (.int .i64 0), .g (.int .i64 0), .g (.int .i64 0), .g (.bool false), .g (.str []), .g (.str []), .g (.int .i64 0), .g (.int .i64 0), .g (.int .i64 0), .g (.int .i64 0), .g (.nsl), .g (.nsl), .g (.nsl)] [(0, 1, (.c (.g (.int .i64 8)))), (1, 1, (.c (.g (.int .i64 9)))), (9, 1, (.c (.g (.int .i64 5)))), (5, 1, (.c (.g (.str [119]))))]⟩,
    ⟨(some 39), none, .call (.c (.g (.fn 14))) [(.t 38)]⟩,
    ⟨(some 37), none, .mov (.t 39)⟩,
    ⟨(some 40), none, .ext 0 (.t 37)⟩,
    ⟨(some 41), none, .ext 1 (.t 37)⟩,
    ⟨(some 9), none, .mov (.t 40)⟩,
    ⟨(some 10), none, .mov (.t 41)⟩]) <|
 .seq (.reg [2, 3, 4, 5, 6, 8, 11, 12] [⟨(some 43), none, .load true 3 (.t 5)⟩,
    ⟨(some 44), none, .mov (.t 9)⟩,
    ⟨(some 45), none, .call (.c (.g (.fn 5))) [(.t 43), (.t 44)]⟩,
    ⟨(some 42), none, .mov (.t 45)⟩,
    ⟨(some 46), none, .ext 0 (.t 42)⟩,
    ⟨(some 47), none, .ext 1 (.t 42)⟩,
    ⟨(some 11), none, .alloc [.z (.int .i64 0), .z (.str []), .s 3]⟩,
    ⟨none, none, .store 3 (.t 11) (.t 46)⟩,
    ⟨(some 12), none, .mov (.t 47)⟩]) <|
 .seq (.reg [2, 3, 4, 5, 6, 8, 11, 12, 14] [⟨(some 49), none, .load true 3 (.t 5)⟩,
    ⟨(some 50), none, .call (.c (.g (.fn 5))) [(.t 49), (.c (.g (.str [120])))]⟩,
    ⟨(some 48), none, .mov (.t 50)⟩,
    ⟨(some 51), none, .ext 0 (.t 48)⟩,
    ⟨(some 52), none, .ext 1 (.t 48)⟩,
    ⟨(some 13), none, .alloc [.z (.int .i64 0), .z (.str []), .s 3]⟩,
    ⟨none, none, .store 3 (.t 13) (.t 51)⟩,
    ⟨(some 14), none, .mov (.t 52)⟩]) <|
 .seq (.reg [2, 3, 4, 5, 6, 8, 11, 12, 14, 15] [⟨(some 53), none, .load true 3 (.t 11)⟩,
    ⟨(some 54), none, .call (.c (.g (.fn 11))) [(.t 53), (.c (.g (.int .i64 5)))]⟩,
    ⟨(some 15), none, .mov (.t 54)⟩]) <|
 .seq (.reg [2, 3, 4, 5, 6, 8, 11, 12, 14, 15, 16] [⟨(some 55), none, .load true 3 (.t 11)⟩,
    ⟨(some 56), none, .call (.c (.g (.fn 9))) [(.t 55)]⟩,
    ⟨(some 16), none, .mov (.t 56)⟩]) <|
 .seq (.reg [0] [⟨(some 57), none, .mov (.t 2)⟩,
    ⟨(some 58), none, .bin .eql (.t 57) (.c (.g (.int .i64 0)))⟩,
    ⟨(some 59), none, .mov (.t 58)⟩,
    ⟨(some 60), (some (59, true)), .mov (.t 4)⟩,
    ⟨(some 61), (some (59, true)), .bin .eql (.t 60) (.c (.g (.int .i64 0)))⟩,
    ⟨(some 62), none, .pick (.t 59) (.t 61) (.c (.g (.bool false)))⟩,
    ⟨(some 63), none, .mov (.t 62)⟩,
    ⟨(some 64), (some (63, true)), .faddr 0 (.t 3)⟩,
    ⟨(some 65), (some (63, true)), .load false 1 (.t 64)⟩,
    ⟨(some 66), (some (63, true)), .bin .eql (.t 65) (.c (.g (.int .i64 5)))⟩,
    ⟨(some 67), none, .pick (.t 63) (.t 66) (.c (.g (.bool false)))⟩,
    ⟨(some 68), none, .mov (.t 67)⟩,
    ⟨(some 69), (some (68, true)), .faddr 1 (.t 3)⟩,
    ⟨(some 70), (some (68, true)), .load false 1 (.t 69)⟩,
    ⟨(some 71), (some (68, true)), .bin .eql (.t 70) (.c (.g (.str [121])))⟩,
    ⟨(some 72), none, .pick (.t 68) (.t 71) (.c (.g (.bool false)))⟩,
    ⟨(some 73), none, .mov (.t 72)⟩,
    ⟨(some 74), (some (73, true)), .faddr 2 (.t 3)⟩,
    ⟨(some 75), (some (73, true)), .load false 1 (.t 74)⟩,
    ⟨(some 76), (some (73, true)), .len (.t 75)⟩,
    ⟨(some 77), (some (73, true)), .bin .eql (.t 76) (.c (.g (.int .i64 2)))⟩,
    ⟨(some 78), none, .pick (.t 73) (.t 77) (.c (.g (.bool false)))⟩,
    ⟨(some 79), none, .mov (.t 78)⟩,
    ⟨(some 80), (some (79, true)), .mov (.t 6)⟩,
    ⟨(some 81), (some (79, true)), .bin .eql (.t 80) (.c (.g (.int .i64 10)))⟩,
    ⟨(some 82), none, .pick (.t 79) (.t 81) (.c (.g (.bool false)))⟩,
    ⟨(some 83), none, .mov (.t 82)⟩,
    ⟨(some 84), (some (83, true)), .load true 3 (.t 3)⟩,
    ⟨(some 85), (some (83, true)), .load true 3 (.t 5)⟩,
    ⟨(some 86), (some (83, true)), .call (.c (.g (.fn 7))) [(.t 84), (.t 85)]⟩,
    ⟨(some 87), none, .pick (.t 83) (.t 86) (.c (.g (.bool false)))⟩,
    ⟨(some 88), none, .mov (.t 87)⟩,
    ⟨(some 89), (some (88, true)), .mov (.t 8)⟩,
    ⟨(some 90), (some (88, true)), .bin .eql (.t 89) (.c (.g (.int .i64 1)))⟩,
    ⟨(some 91), none, .pick (.t 88) (.t 90) (.c (.g (.bool false)))⟩,
    ⟨(some 92), none, .mov (.t 91)⟩,
    ⟨(some 93), (some (92, true)), .mov (.t 12)⟩,
    ⟨(some 94), (some (92, true)), .bin .eql (.t 93) (.c (.g (.int .i64 0)))⟩,
    ⟨(some 95), none, .pick (.t 92) (.t 94) (.c (.g (.bool false)))⟩,
    ⟨(some 96), none, .mov (.t 95)⟩,
    ⟨(some 97), (some (96, true)), .faddr 1 (.t 11)⟩,
    ⟨(some 98), (some (96, true)), .load false 1 (.t 97)⟩,
    ⟨(some 99), (some (96, true)), .bin .eql (.t 98) (.c (.g (.str [119])))⟩,
    ⟨(some 100), none, .pick (.t 96) (.t 99) (.c (.g (.bool false)))⟩,
    ⟨(some 101), none, .mov (.t 100)⟩,
    ⟨(some 102), (some (101, true)), .mov (.t 14)⟩,
    ⟨(some 103), (some (101, true)), .bin .eql (.t 102) (.c (.g (.int .i64 3)))⟩,
    ⟨(some 104), none, .pick (.t 101) (.t 103) (.c (.g (.bool false)))⟩,
    ⟨(some 105), none, .mov (.t 104)⟩,
    ⟨(some 106), (some (105, true)), .mov (.t 15)⟩,
    ⟨(some 107), (some (105, true)), .bslice 1 2 [.int .i64 0] [(0, 1, (.c (.g (.int .i64 8)))), (1, 1, (.c (.g (.int .i64 9))))]⟩,
    ⟨(some 108), (some (105, true)), .call (.c (.g (.fn 8))) [(.t 106), (.t 107)]⟩,
    ⟨(some 109), none, .pick (.t 105) (.t 108) (.c (.g (.bool false)))⟩,
    ⟨(some 110), none, .mov (.t 109)⟩,
    ⟨(some 111), (some (110, true)), .mov (.t 16)⟩,
    ⟨(some 112), (some (110, true)), .bslice 1 2 [.int .i64 0] [(0, 1, (.c (.g (.int .i64 3)))), (1, 1, (.c (.g (.int .i64 5))))]⟩,
    ⟨(some 113), (some (110, true)), .call (.c (.g (.fn 8))) [(.t 111), (.t 112)]⟩,
    ⟨(some 114), none, .pick (.t 110) (.t 113) (.c (.g (.bool false)))⟩,
    ⟨(some 115), none, .mov (.t 114)⟩,
    ⟨(some 116), (some (115, true)), .load true 3 (.t 11)⟩,
    ⟨(some 117), (some (115, true)), .call (.c (.g (.fn 15))) [(.t 116)]⟩,
    ⟨(some 118), none, .pick (.t 115) (.t 117) (.c (.g (.bool false)))⟩,
    ⟨(some 119), none, .mov (.t 118)⟩,
    ⟨(some 120), (some (119, true)), .build [.g (.int .i64 0), .g (.str []), .g (.nsl)] [(0, 1, (.c (.g (.int .i64 1))))]⟩,
    ⟨(some 121), (some (119, true)), .call (.c (.g (.fn 15))) [(.t 120)]⟩,
    ⟨(some 122), (some (119, true)), .un .not (.t 121)⟩,
    ⟨(some 123), none, .pick (.t 119) (.t 122) (.c (.g (.bool false)))⟩,
    ⟨(some 0), none, .mov (.t 123)⟩]) <|
 .ret⟩
def h4 : List (List Nat) := [[], [1, 2], [2, 3, 4], [2, 3, 4, 5, 6], [2, 3, 4, 5, 6, 8], [2, 3, 4, 5, 6, 8, 9], [2, 3, 4, 5, 6, 8, 11, 12], [2, 3, 4, 5, 6, 8, 11, 12, 14], [2, 3, 4, 5, 6, 8, 11, 12, 14, 15], [2, 3, 4, 5, 6, 8, 11, 12, 14, 15, 16], [0]]
theorem c4 : cFunc Tryz.prog 4 false h4 = some F4 := by kernel_rfl

/-- baton/fence.Do -/
def F5 : IFunc := ⟨2, 31, [.cell 4 true 3, .tmp 5], false,
 .seq (.reg [1, 2, 4] [⟨(some 2), none, .box (.t 0)⟩,
    ⟨(some 4), none, .alloc [.z (.int .i64 0), .z (.str []), .s 3]⟩,
    ⟨(some 5), none, .mov (.c (.g (.int .i64 0)))⟩]) <|
 .seq (.reg [2, 4, 6, 7] [⟨(some 9), none, .mov (.t 1)⟩,
    ⟨(some 10), none, .call (.c (.g (.fn 16))) [(.t 9)]⟩,
    ⟨(some 8), none, .mov (.t 10)⟩,
    ⟨(some 11), none, .ext 0 (.t 8)⟩,
    ⟨(some 12), none, .ext 1 (.t 8)⟩,
    ⟨(some 6), none, .alloc [.z (.int .i64 0), .z (.int .i64 0), .z (.int .i64 0), .z (.bool false), .z (.str []), .z (.str []), .z (.int .i64 0), .z (.int .i64 0), .z (.int .i64 0), .z (.int .i64 0), .s 5, .s 4, .s 4]⟩,
    ⟨none, none, .store 13 (.t 6) (.t 11)⟩,
    ⟨(some 7), none, .mov (.t 12)⟩]) <|
 .seq (.seq (.reg [2, 4, 6, 19] [⟨(some 13), none, .mov (.t 7)⟩,
     ⟨(some 14), none, .un .not (.t 13)⟩,
     ⟨(some 15), none, .mov (.t 14)⟩,
     ⟨(some 16), (some (15, false)), .faddr 0 (.t 6)⟩,
     ⟨(some 17), (some (15, false)), .load false 1 (.t 16)⟩,
     ⟨(some 18), (some (15, false)), .bin .neq (.t 17) (.c (.g (.int .i64 8)))⟩,
     ⟨(some 19), none, .pick (.t 15) (.c (.g (.bool true))) (.t 18)⟩]) <|
  .cond [2, 4, 6] (.t 19)
   (.seq (.reg [4, 5] [⟨(some 20), none, .load true 3 (.t 2)⟩,
       ⟨none, none, .store 3 (.t 4) (.t 20)⟩,
       ⟨(some 5), none, .mov (.c (.g (.int .i64 3)))⟩]) <|
    .ret)
   (.skip)) <|
 .seq (.reg [4, 5] [⟨(some 21), none, .load true 3 (.t 2)⟩,
    ⟨(some 22), none, .faddr 1 (.t 6)⟩,
    ⟨(some 23), none, .load false 1 (.t 22)⟩,
    ⟨(some 24), none, .faddr 9 (.t 6)⟩,
    ⟨(some 25), none, .load false 1 (.t 24)⟩,
    ⟨(some 26), none, .faddr 5 (.t 6)⟩,
    ⟨(some 27), none, .load false 1 (.t 26)⟩,
    ⟨(some 28), none, .call (.c (.g (.fn 13))) [(.t 21), (.t 23), (.t 25), (.t 27)]⟩,
    ⟨(some 29), none, .ext 0 (.t 28)⟩,
    ⟨(some 30), none, .ext 1 (.t 28)⟩,
    ⟨none, none, .store 3 (.t 4) (.t 29)⟩,
    ⟨(some 5), none, .mov (.t 30)⟩]) <|
 .ret⟩
def h5 : List (List Nat) := [[1, 2, 4], [2, 4, 6, 7], [2, 4, 6, 19], [2, 4, 6], [4, 5], [4, 5]]
theorem c5 : cFunc Tryz.prog 5 false h5 = some F5 := by kernel_rfl

/-- baton/batonref20.Do -/
def F6 : IFunc := ⟨2, 31, [.cell 4 true 3, .tmp 5], false,
 .seq (.reg [1, 2, 4] [⟨(some 2), none, .box (.t 0)⟩,
    ⟨(some 4), none, .alloc [.z (.int .i64 0), .z (.str []), .s 3]⟩,
    ⟨(some 5), none, .mov (.c (.g (.int .i64 0)))⟩]) <|
 .seq (.reg [2, 4, 6, 7] [⟨(some 9), none, .mov (.t 1)⟩,
    ⟨(some 10), none, .call (.c (.g (.fn 17))) [(.t 9)]⟩,
    ⟨(some 8), none, .mov (.t 10)⟩,
    ⟨(some 11), none, .ext 0 (.t 8)⟩,
    ⟨(some 12), none, .ext 1 (.t 8)⟩,
    ⟨(some 6), none, .alloc [.z (.int .i64 0), .z (.int .i64 0), .z (.int .i64 0), .z (.bool false), .z (.str []), .z (.str []), .z (.int .i64 0), .z (.int .i64 0), .z (.int .i64 0), .z (.int .i64 0), .s 5, .s 4, .s 4]⟩,
    ⟨none, none, .store 13 (.t 6) (.t 11)⟩,
    ⟨(some 7), none, .mov (.t 12)⟩]) <|
 .seq (.seq (.reg [2, 4, 6, 19] [⟨(some 13), none, .mov (.t 7)⟩,
     ⟨(some 14), none, .un .not (.t 13)⟩,
     ⟨(some 15), none, .mov (.t 14)⟩,
     ⟨(some 16), (some (15, false)), .faddr 0 (.t 6)⟩,
     ⟨(some 17), (some (15, false)), .load false 1 (.t 16)⟩,
     ⟨(some 18), (some (15, false)), .bin .neq (.t 17) (.c (.g (.int .i64 8)))⟩,
     ⟨(some 19), none, .pick (.t 15) (.c (.g (.bool true))) (.t 18)⟩]) <|
  .cond [2, 4, 6] (.t 19)
   (.seq (.reg [4, 5] [⟨(some 20), none, .load true 3 (.t 2)⟩,
       ⟨none, none, .store 3 (.t 4) (.t 20)⟩,
       ⟨(some 5), none, .mov (.c (.g (.int .i64 3)))⟩]) <|
    .ret)
   (.skip)) <|
 .seq (.reg [4, 5] [⟨(some 21), none, .load true 3 (.t 2)⟩,
    ⟨(some 22), none, .faddr 1 (.t 6)⟩,
    ⟨(some 23), none, .load false 1 (.t 22)⟩,
    ⟨(some 24), none, .faddr 9 (.t 6)⟩,
    ⟨(some 25), none, .load false 1 (.t 24)⟩,
    ⟨(some 26), none, .faddr 5 (.t 6)⟩,
    ⟨(some 27), none, .load false 1 (.t 26)⟩,
    ⟨(some 28), none, .call (.c (.g (.fn 18))) [(.t 21), (.t 23), (.t 25), (.t 27)]⟩,
    ⟨(some 29), none, .ext 0 (.t 28)⟩,
    ⟨(some 30), none, .ext 1 (.t 28)⟩,
    ⟨none, none, .store 3 (.t 4) (.t 29)⟩,
    ⟨(some 5), none, .mov (.t 30)⟩]) <|
 .ret⟩
def h6 : List (List Nat) := [[1, 2, 4], [2, 4, 6, 7], [2, 4, 6, 19], [2, 4, 6], [4, 5], [4, 5]]
theorem c6 : cFunc Tryz.prog 6 false h6 = some F6 := by kernel_rfl

/-- baton/batonref20.Same -/
def L7_0 : IC :=
 .seq (.seq (.reg [2, 3, 5, 31] [⟨(some 27), none, .mov (.t 5)⟩,
     ⟨(some 28), none, .faddr 2 (.t 2)⟩,
     ⟨(some 29), none, .load false 1 (.t 28)⟩,
     ⟨(some 30), none, .len (.t 29)⟩,
     ⟨(some 31), none, .bin .lss (.t 27) (.t 30)⟩]) <|
  .cond [2, 3, 5] (.t 31)
   (.skip)
   (.exit 0)) <|
 .seq (.block [2, 3, 5] 1 <|
  .seq (.drw [2, 3, 5, 44] 0 <|
   .take ⟨(some 34), none, .faddr 2 (.t 2)⟩ <|
   .take ⟨(some 35), none, .load false 1 (.t 34)⟩ <|
   .take ⟨(some 36), none, .mov (.t 5)⟩ <|
   .take ⟨(some 37), none, .iaddr 3 (.t 35) (.t 36)⟩ <|
   .take ⟨(some 38), none, .load true 3 (.t 37)⟩ <|
   .take ⟨(some 39), none, .faddr 2 (.t 3)⟩ <|
   .take ⟨(some 40), none, .load false 1 (.t 39)⟩ <|
   .take ⟨(some 41), none, .mov (.t 5)⟩ <|
   .take ⟨(some 42), none, .iaddr 3 (.t 40) (.t 41)⟩ <|
   .take ⟨(some 43), none, .load true 3 (.t 42)⟩ <|
   .take ⟨(some 44), none, .eqs true true [.i, .i, .s] (.t 38) (.t 43)⟩ <|
   .leaf) <|
  .cond [2, 3, 5] (.t 44)
   (.seq (.reg [4] [⟨(some 4), none, .mov (.c (.g (.bool false)))⟩]) <|
    .ret)
   (.skip)) <|
 .reg [2, 3, 5] [⟨(some 32), none, .mov (.t 5)⟩,
   ⟨(some 33), none, .bin .add (.t 32) (.c (.g (.int .i64 1)))⟩,
   ⟨(some 5), none, .mov (.t 33)⟩]
def F7 : IFunc := ⟨2, 45, [.tmp 4], false,
 .seq (.reg [2, 3] [⟨(some 2), none, .box (.t 0)⟩,
    ⟨(some 3), none, .box (.t 1)⟩,
    ⟨(some 4), none, .mov (.c (.g (.bool false)))⟩]) <|
 .seq (.seq (.reg [2, 3, 26] [⟨(some 6), none, .faddr 0 (.t 2)⟩,
     ⟨(some 7), none, .load false 1 (.t 6)⟩,
     ⟨(some 8), none, .faddr 0 (.t 3)⟩,
     ⟨(some 9), none, .load false 1 (.t 8)⟩,
     ⟨(some 10), none, .bin .neq (.t 7) (.t 9)⟩,
     ⟨(some 11), none, .mov (.t 10)⟩,
     ⟨(some 12), (some (11, false)), .faddr 1 (.t 2)⟩,
     ⟨(some 13), (some (11, false)), .load false 1 (.t 12)⟩,
     ⟨(some 14), (some (11, false)), .faddr 1 (.t 3)⟩,
     ⟨(some 15), (some (11, false)), .load false 1 (.t 14)⟩,
     ⟨(some 16), (some (11, false)), .bin .neq (.t 13) (.t 15)⟩,
     ⟨(some 17), none, .pick (.t 11) (.c (.g (.bool true))) (.t 16)⟩,
     ⟨(some 18), none, .mov (.t 17)⟩,
     ⟨(some 19), (some (18, false)), .faddr 2 (.t 2)⟩,
     ⟨(some 20), (some (18, false)), .load false 1 (.t 19)⟩,
     ⟨(some 21), (some (18, false)), .len (.t 20)⟩,
     ⟨(some 22), (some (18, false)), .faddr 2 (.t 3)⟩,
     ⟨(some 23), (some (18, false)), .load false 1 (.t 22)⟩,
     ⟨(some 24), (some (18, false)), .len (.t 23)⟩,
     ⟨(some 25), (some (18, false)), .bin .neq (.t 21) (.t 24)⟩,
     ⟨(some 26), none, .pick (.t 18) (.c (.g (.bool true))) (.t 25)⟩]) <|
  .cond [2, 3] (.t 26)
   (.seq (.reg [4] [⟨(some 4), none, .mov (.c (.g (.bool false)))⟩]) <|
    .ret)
   (.skip)) <|
 .seq (.seq (.reg [2, 3, 5] [⟨(some 5), none, .mov (.c (.g (.int .i64 0)))⟩]) <|
  .block [] 0 <|
  .loop [2, 3, 5] [] L7_0) <|
 .seq (.reg [4] [⟨(some 4), none, .mov (.c (.g (.bool true)))⟩]) <|
 .ret⟩
def h7 : List (List Nat) := [[2, 3], [2, 3, 26], [2, 3], [4], [2, 3, 5], [], [2, 3, 5], [2, 3, 5, 31], [2, 3, 5], [2, 3, 5], [2, 3, 5, 44], [], [2, 3, 5], [4], [2, 3, 5], [4]]
theorem c7 : cFunc Tryz.prog 7 false h7 = some F7 := by kernel_rfl

/-- baton/batonref08.Ints -/
def L8_0 : IC :=
 .seq (.seq (.reg [0, 1, 5, 14] [⟨(some 11), none, .mov (.t 5)⟩,
     ⟨(some 12), none, .mov (.t 0)⟩,
     ⟨(some 13), none, .len (.t 12)⟩,
     ⟨(some 14), none, .bin .lss (.t 11) (.t 13)⟩]) <|
  .cond [0, 1, 5] (.t 14)
   (.skip)
   (.exit 0)) <|
 .seq (.block [0, 1, 5] 1 <|
  .seq (.drw [0, 1, 5, 25] 0 <|
   .take ⟨(some 17), none, .mov (.t 0)⟩ <|
   .take ⟨(some 18), none, .mov (.t 5)⟩ <|
   .take ⟨(some 19), none, .iaddr 1 (.t 17) (.t 18)⟩ <|
   .take ⟨(some 20), none, .load false 1 (.t 19)⟩ <|
   .take ⟨(some 21), none, .mov (.t 1)⟩ <|
   .take ⟨(some 22), none, .mov (.t 5)⟩ <|
   .take ⟨(some 23), none, .iaddr 1 (.t 21) (.t 22)⟩ <|
   .take ⟨(some 24), none, .load false 1 (.t 23)⟩ <|
   .free <|
   .take ⟨(some 25), none, .bin .neq (.t 20) (.t 24)⟩ <|
   .leaf) <|
  .cond [0, 1, 5] (.t 25)
   (.seq (.reg [4] [⟨(some 4), none, .mov (.c (.g (.bool false)))⟩]) <|
    .ret)
   (.skip)) <|
 .reg [0, 1, 5] [⟨(some 15), none, .mov (.t 5)⟩,
   ⟨(some 16), none, .bin .add (.t 15) (.c (.g (.int .i64 1)))⟩,
   ⟨(some 5), none, .mov (.t 16)⟩]
def F8 : IFunc := ⟨2, 26, [.tmp 4], false,
 .seq (.reg [0, 1] [⟨(some 4), none, .mov (.c (.g (.bool false)))⟩]) <|
 .seq (.seq (.reg [0, 1, 10] [⟨(some 6), none, .mov (.t 0)⟩,
     ⟨(some 7), none, .len (.t 6)⟩,
     ⟨(some 8), none, .mov (.t 1)⟩,
     ⟨(some 9), none, .len (.t 8)⟩,
     ⟨(some 10), none, .bin .neq (.t 7) (.t 9)⟩]) <|
  .cond [0, 1] (.t 10)
   (.seq (.reg [4] [⟨(some 4), none, .mov (.c (.g (.bool false)))⟩]) <|
    .ret)
   (.skip)) <|
 .seq (.seq (.reg [0, 1, 5] [⟨(some 5), none, .mov (.c (.g (.int .i64 0)))⟩]) <|
  .block [] 0 <|
  .loop [0, 1, 5] [] L8_0) <|
 .seq (.reg [4] [⟨(some 4), none, .mov (.c (.g (.bool true)))⟩]) <|
 .ret⟩
def h8 : List (List Nat) := [[0, 1], [0, 1, 10], [0, 1], [4], [0, 1, 5], [], [0, 1, 5], [0, 1, 5, 14], [0, 1, 5], [0, 1, 5], [0, 1, 5, 25], [], [0, 1, 5], [4], [0, 1, 5], [4]]
theorem c8 : cFunc Tryz.prog 8 false h8 = some F8 := by kernel_rfl

/-- baton/fence.Tokens -/
def L9_0 : IC :=
 .seq (.reg [3, 7, 8, 9, 10] [⟨(some 10), none, .bin .lss (.t 9) (.t 8)⟩]) <|
 .seq (.cond [3, 7, 8, 9] (.t 10)
   (.skip)
   (.exit 0)) <|
 .seq (.block [3, 7, 8, 9] 1 <|
  .seq (.reg [3, 5, 7, 8, 9] [⟨(some 11), none, .iaddr 3 (.t 7) (.t 9)⟩,
     ⟨(some 12), none, .load true 3 (.t 11)⟩,
     ⟨(some 5), none, .alloc [.z (.int .i64 0), .z (.int .i64 0), .z (.str [])]⟩,
     ⟨none, none, .store 3 (.t 5) (.t 12)⟩]) <|
  .reg [3, 7, 8, 9] [⟨(some 13), none, .mov (.t 3)⟩,
    ⟨(some 14), none, .faddr 1 (.t 5)⟩,
    ⟨(some 15), none, .load false 1 (.t 14)⟩,
    ⟨(some 16), none, .bslice 1 1 [.int .i64 0] [(0, 1, (.t 15))]⟩,
    ⟨(some 17), none, .app 1 8 (.t 13) (.t 16)⟩,
    ⟨(some 3), none, .mov (.t 17)⟩]) <|
 .reg [3, 7, 8, 9] [⟨(some 18), none, .bin .add (.t 9) (.c (.g (.int .i64 1)))⟩,
   ⟨(some 9), none, .mov (.t 18)⟩]
def F9 : IFunc := ⟨1, 21, [.tmp 2], false,
 .seq (.reg [1] [⟨(some 1), none, .box (.t 0)⟩,
    ⟨(some 2), none, .nres 1⟩]) <|
 .seq (.reg [1, 3] [⟨(some 3), none, .nres 1⟩]) <|
 .seq (.seq (.reg [3, 7, 8, 9] [⟨(some 6), none, .faddr 2 (.t 1)⟩,
     ⟨(some 7), none, .load false 1 (.t 6)⟩,
     ⟨(some 8), none, .len (.t 7)⟩,
     ⟨(some 9), none, .mov (.c (.g (.int .i64 0)))⟩]) <|
  .block [3] 0 <|
  .loop [3, 7, 8, 9] [] L9_0) <|
 .seq (.reg [2] [⟨(some 19), none, .mov (.t 3)⟩,
    ⟨(some 20), none, .call (.c (.g (.fn 19))) [(.t 19)]⟩,
    ⟨(some 2), none, .mov (.t 20)⟩]) <|
 .ret⟩
def h9 : List (List Nat) := [[1], [1, 3], [3, 7, 8, 9], [3], [3, 7, 8, 9], [3, 7, 8, 9, 10], [3, 7, 8, 9], [3, 7, 8, 9], [3, 5, 7, 8, 9], [3, 7, 8, 9], [3, 7, 8, 9], [2]]
theorem c9 : cFunc Tryz.prog 9 false h9 = some F9 := by kernel_rfl

/-- baton/batonref20.Tokens -/
def L10_0 : IC :=
 .seq (.seq (.reg [1, 3, 4, 9] [⟨(some 5), none, .mov (.t 4)⟩,
     ⟨(some 6), none, .faddr 2 (.t 1)⟩,
     ⟨(some 7), none, .load false 1 (.t 6)⟩,
     ⟨(some 8), none, .len (.t 7)⟩,
     ⟨(some 9), none, .bin .lss (.t 5) (.t 8)⟩]) <|
  .cond [1, 3, 4] (.t 9)
   (.skip)
   (.exit 0)) <|
 .seq (.block [1, 3, 4] 1 <|
  .reg [1, 3, 4] [⟨(some 12), none, .mov (.t 3)⟩,
    ⟨(some 13), none, .faddr 2 (.t 1)⟩,
    ⟨(some 14), none, .load false 1 (.t 13)⟩,
    ⟨(some 15), none, .mov (.t 4)⟩,
    ⟨(some 16), none, .iaddr 3 (.t 14) (.t 15)⟩,
    ⟨(some 17), none, .faddr 1 (.t 16)⟩,
    ⟨(some 18), none, .load false 1 (.t 17)⟩,
    ⟨(some 19), none, .call (.c (.g (.fn 20))) [(.t 12), (.t 18)]⟩,
    ⟨(some 3), none, .mov (.t 19)⟩]) <|
 .reg [1, 3, 4] [⟨(some 10), none, .mov (.t 4)⟩,
   ⟨(some 11), none, .bin .add (.t 10) (.c (.g (.int .i64 1)))⟩,
   ⟨(some 4), none, .mov (.t 11)⟩]
def F10 : IFunc := ⟨1, 21, [.tmp 2], false,
 .seq (.reg [1] [⟨(some 1), none, .box (.t 0)⟩,
    ⟨(some 2), none, .nres 1⟩]) <|
 .seq (.reg [1, 3] [⟨(some 3), none, .nres 1⟩]) <|
 .seq (.seq (.reg [1, 3, 4] [⟨(some 4), none, .mov (.c (.g (.int .i64 0)))⟩]) <|
  .block [3] 0 <|
  .loop [1, 3, 4] [] L10_0) <|
 .seq (.reg [2] [⟨(some 20), none, .mov (.t 3)⟩,
    ⟨(some 2), none, .mov (.t 20)⟩]) <|
 .ret⟩
def h10 : List (List Nat) := [[1], [1, 3], [1, 3, 4], [3], [1, 3, 4], [1, 3, 4, 9], [1, 3, 4], [1, 3, 4], [1, 3, 4], [1, 3, 4], [2]]
theorem c10 : cFunc Tryz.prog 10 false h10 = some F10 := by kernel_rfl

/-- baton/fence.Owners -/
def L11_0 : IC :=
 .seq (.reg [1, 5, 9, 10, 11, 12] [⟨(some 12), none, .bin .lss (.t 11) (.t 10)⟩]) <|
 .seq (.cond [1, 5, 9, 10, 11] (.t 12)
   (.skip)
   (.exit 0)) <|
 .seq (.block [1, 5, 9, 10, 11] 1 <|
  .seq (.reg [1, 5, 7, 9, 10, 11] [⟨(some 13), none, .iaddr 3 (.t 9) (.t 11)⟩,
     ⟨(some 14), none, .load true 3 (.t 13)⟩,
     ⟨(some 7), none, .alloc [.z (.int .i64 0), .z (.int .i64 0), .z (.str [])]⟩,
     ⟨none, none, .store 3 (.t 7) (.t 14)⟩]) <|
  .seq (.reg [1, 5, 7, 9, 10, 11, 18] [⟨(some 15), none, .faddr 1 (.t 7)⟩,
     ⟨(some 16), none, .load false 1 (.t 15)⟩,
     ⟨(some 17), none, .mov (.t 1)⟩,
     ⟨(some 18), none, .bin .eql (.t 16) (.t 17)⟩]) <|
  .cond [1, 5, 9, 10, 11] (.t 18)
   (.reg [1, 5, 9, 10, 11] [⟨(some 19), none, .mov (.t 5)⟩,
      ⟨(some 20), none, .faddr 0 (.t 7)⟩,
      ⟨(some 21), none, .load false 1 (.t 20)⟩,
      ⟨(some 22), none, .bslice 1 1 [.int .i64 0] [(0, 1, (.t 21))]⟩,
      ⟨(some 23), none, .app 1 8 (.t 19) (.t 22)⟩,
      ⟨(some 5), none, .mov (.t 23)⟩])
   (.skip)) <|
 .reg [1, 5, 9, 10, 11] [⟨(some 24), none, .bin .add (.t 11) (.c (.g (.int .i64 1)))⟩,
   ⟨(some 11), none, .mov (.t 24)⟩]
def F11 : IFunc := ⟨2, 27, [.tmp 4], false,
 .seq (.reg [1, 2] [⟨(some 2), none, .box (.t 0)⟩,
    ⟨(some 4), none, .nres 1⟩]) <|
 .seq (.reg [1, 2, 5] [⟨(some 5), none, .nres 1⟩]) <|
 .seq (.seq (.reg [1, 5, 9, 10, 11] [⟨(some 8), none, .faddr 2 (.t 2)⟩,
     ⟨(some 9), none, .load false 1 (.t 8)⟩,
     ⟨(some 10), none, .len (.t 9)⟩,
     ⟨(some 11), none, .mov (.c (.g (.int .i64 0)))⟩]) <|
  .block [5] 0 <|
  .loop [1, 5, 9, 10, 11] [] L11_0) <|
 .seq (.reg [4] [⟨(some 25), none, .mov (.t 5)⟩,
    ⟨(some 26), none, .call (.c (.g (.fn 19))) [(.t 25)]⟩,
    ⟨(some 4), none, .mov (.t 26)⟩]) <|
 .ret⟩
def h11 : List (List Nat) := [[1, 2], [1, 2, 5], [1, 5, 9, 10, 11], [5], [1, 5, 9, 10, 11], [1, 5, 9, 10, 11, 12], [1, 5, 9, 10, 11], [1, 5, 9, 10, 11], [1, 5, 7, 9, 10, 11], [1, 5, 7, 9, 10, 11, 18], [1, 5, 9, 10, 11], [1, 5, 9, 10, 11], [1, 5, 9, 10, 11], [4]]
theorem c11 : cFunc Tryz.prog 11 false h11 = some F11 := by kernel_rfl

/-- baton/batonref20.Owners -/
def L12_0 : IC :=
 .seq (.seq (.reg [1, 2, 5, 6, 11] [⟨(some 7), none, .mov (.t 6)⟩,
     ⟨(some 8), none, .faddr 2 (.t 2)⟩,
     ⟨(some 9), none, .load false 1 (.t 8)⟩,
     ⟨(some 10), none, .len (.t 9)⟩,
     ⟨(some 11), none, .bin .lss (.t 7) (.t 10)⟩]) <|
  .cond [1, 2, 5, 6] (.t 11)
   (.skip)
   (.exit 0)) <|
 .seq (.block [1, 2, 5, 6] 1 <|
  .seq (.reg [1, 2, 5, 6, 21] [⟨(some 14), none, .faddr 2 (.t 2)⟩,
     ⟨(some 15), none, .load false 1 (.t 14)⟩,
     ⟨(some 16), none, .mov (.t 6)⟩,
     ⟨(some 17), none, .iaddr 3 (.t 15) (.t 16)⟩,
     ⟨(some 18), none, .faddr 1 (.t 17)⟩,
     ⟨(some 19), none, .load false 1 (.t 18)⟩,
     ⟨(some 20), none, .mov (.t 1)⟩,
     ⟨(some 21), none, .bin .eql (.t 19) (.t 20)⟩]) <|
  .cond [1, 2, 5, 6] (.t 21)
   (.reg [1, 2, 5, 6] [⟨(some 22), none, .mov (.t 5)⟩,
      ⟨(some 23), none, .faddr 2 (.t 2)⟩,
      ⟨(some 24), none, .load false 1 (.t 23)⟩,
      ⟨(some 25), none, .mov (.t 6)⟩,
      ⟨(some 26), none, .iaddr 3 (.t 24) (.t 25)⟩,
      ⟨(some 27), none, .faddr 0 (.t 26)⟩,
      ⟨(some 28), none, .load false 1 (.t 27)⟩,
      ⟨(some 29), none, .call (.c (.g (.fn 20))) [(.t 22), (.t 28)]⟩,
      ⟨(some 5), none, .mov (.t 29)⟩])
   (.skip)) <|
 .reg [1, 2, 5, 6] [⟨(some 12), none, .mov (.t 6)⟩,
   ⟨(some 13), none, .bin .add (.t 12) (.c (.g (.int .i64 1)))⟩,
   ⟨(some 6), none, .mov (.t 13)⟩]
def F12 : IFunc := ⟨2, 31, [.tmp 4], false,
 .seq (.reg [1, 2] [⟨(some 2), none, .box (.t 0)⟩,
    ⟨(some 4), none, .nres 1⟩]) <|
 .seq (.reg [1, 2, 5] [⟨(some 5), none, .nres 1⟩]) <|
 .seq (.seq (.reg [1, 2, 5, 6] [⟨(some 6), none, .mov (.c (.g (.int .i64 0)))⟩]) <|
  .block [5] 0 <|
  .loop [1, 2, 5, 6] [] L12_0) <|
 .seq (.reg [4] [⟨(some 30), none, .mov (.t 5)⟩,
    ⟨(some 4), none, .mov (.t 30)⟩]) <|
 .ret⟩
def h12 : List (List Nat) := [[1, 2], [1, 2, 5], [1, 2, 5, 6], [5], [1, 2, 5, 6], [1, 2, 5, 6, 11], [1, 2, 5, 6], [1, 2, 5, 6], [1, 2, 5, 6, 21], [1, 2, 5, 6], [1, 2, 5, 6], [1, 2, 5, 6], [4]]
theorem c12 : cFunc Tryz.prog 12 false h12 = some F12 := by kernel_rfl

/-- baton/fence.Write -/
def F13 : IFunc := ⟨4, 27, [.cell 8 true 3, .tmp 9], false,
 .seq (.reg [1, 2, 3, 4, 8] [⟨(some 4), none, .box (.t 0)⟩,
    ⟨(some 8), none, .alloc [.z (.int .i64 0), .z (.str []), .s 3]⟩,
    ⟨(some 9), none, .mov (.c (.g (.int .i64 0)))⟩]) <|
 .seq (.reg [4, 8, 10] [⟨(some 12), none, .mov (.t 1)⟩,
    ⟨(some 13), none, .mov (.t 2)⟩,
    ⟨(some 14), none, .mov (.t 3)⟩,
    ⟨(some 15), none, .build [.g (.int .i64 0), .g (.int .i64 0), .g (.str [])] [(0, 1, (.t 12)), (1, 1, (.t 13)), (2, 1, (.t 14))]⟩,
    ⟨(some 10), none, .alloc [.z (.int .i64 0), .z (.int .i64 0), .z (.str [])]⟩,
    ⟨none, none, .store 3 (.t 10) (.t 15)⟩]) <|
 .seq (.seq (.reg [4, 8, 10, 11] [⟨(some 16), none, .load true 3 (.t 4)⟩,
     ⟨(some 17), none, .load true 3 (.t 10)⟩,
     ⟨(some 18), none, .call (.c (.g (.fn 21))) [(.t 16), (.t 17)]⟩,
     ⟨(some 11), none, .mov (.t 18)⟩]) <|
  .seq (.reg [4, 8, 10, 11, 20] [⟨(some 19), none, .mov (.t 11)⟩,
     ⟨(some 20), none, .isnil true 1 (.t 19)⟩]) <|
  .cond [4, 8, 10] (.t 20)
   (.seq (.drw [8, 9] 0 <|
     .take ⟨(some 21), none, .load true 3 (.t 4)⟩ <|
     .take ⟨(some 22), none, .mov (.t 11)⟩ <|
     .one ⟨(some 23), none, .call (.c (.g (.fn 22))) [(.t 22)]⟩ <|
     .free <|
     .one ⟨none, none, .store 3 (.t 8) (.t 21)⟩ <|
     .take ⟨(some 9), none, .mov (.t 23)⟩ <|
     .leaf) <|
    .ret)
   (.skip)) <|
 .seq (.reg [8, 9] [⟨(some 24), none, .load true 3 (.t 4)⟩,
    ⟨(some 25), none, .load true 3 (.t 10)⟩,
    ⟨(some 26), none, .call (.c (.g (.fn 23))) [(.t 24), (.t 25)]⟩,
    ⟨none, none, .store 3 (.t 8) (.t 26)⟩,
    ⟨(some 9), none, .mov (.c (.g (.int .i64 0)))⟩]) <|
 .ret⟩
def h13 : List (List Nat) := [[1, 2, 3, 4, 8], [4, 8, 10], [4, 8, 10, 11], [4, 8, 10, 11, 20], [4, 8, 10], [8, 9], [], [8, 9]]
theorem c13 : cFunc Tryz.prog 13 false h13 = some F13 := by kernel_rfl

/-- baton/wire.Ask -/
def L14_0 : IC :=
 .seq (.reg [1, 4, 43, 44, 45, 46] [⟨(some 46), none, .bin .lss (.t 45) (.t 44)⟩]) <|
 .seq (.cond [1, 4, 43, 44, 45] (.t 46)
   (.skip)
   (.exit 0)) <|
 .seq (.block [1, 4, 43, 44, 45] 1 <|
  .seq (.reg [1, 4, 6, 43, 44, 45] [⟨(some 47), none, .iaddr 5 (.t 43) (.t 45)⟩,
     ⟨(some 48), none, .load true 5 (.t 47)⟩,
     ⟨(some 6), none, .alloc [.z (.str []), .z (.int .i64 0), .z (.int .i64 0), .z (.int .i64 0), .z (.str [])]⟩,
     ⟨none, none, .store 5 (.t 6) (.t 48)⟩]) <|
  .seq (.reg [1, 4, 6, 43, 44, 45] [⟨(some 49), none, .faddr 0 (.t 6)⟩,
     ⟨(some 50), none, .load false 1 (.t 49)⟩,
     ⟨(some 51), none, .bslice 1 1 [.str []] [(0, 1, (.t 50))]⟩,
     ⟨(some 52), none, .call (.c (.g (.fn 27))) [(.t 4), (.t 51)]⟩]) <|
  .seq (.reg [1, 4, 6, 43, 44, 45] [⟨(some 53), none, .faddr 1 (.t 6)⟩,
     ⟨(some 54), none, .load false 1 (.t 53)⟩,
     ⟨(some 55), none, .faddr 2 (.t 6)⟩,
     ⟨(some 56), none, .load false 1 (.t 55)⟩,
     ⟨(some 57), none, .faddr 3 (.t 6)⟩,
     ⟨(some 58), none, .load false 1 (.t 57)⟩,
     ⟨(some 59), none, .bslice 1 3 [.int .i64 0] [(0, 1, (.t 54)), (1, 1, (.t 56)), (2, 1, (.t 58))]⟩,
     ⟨(some 60), none, .call (.c (.g (.fn 25))) [(.t 4), (.t 59)]⟩]) <|
  .reg [1, 4, 43, 44, 45] [⟨(some 61), none, .faddr 4 (.t 6)⟩,
    ⟨(some 62), none, .load false 1 (.t 61)⟩,
    ⟨(some 63), none, .bslice 1 1 [.str []] [(0, 1, (.t 62))]⟩,
    ⟨(some 64), none, .call (.c (.g (.fn 27))) [(.t 4), (.t 63)]⟩]) <|
 .reg [1, 4, 43, 44, 45] [⟨(some 65), none, .bin .add (.t 45) (.c (.g (.int .i64 1)))⟩,
   ⟨(some 45), none, .mov (.t 65)⟩]
def F14 : IFunc := ⟨1, 76, [.tmp 2, .tmp 3], false,
 .seq (.reg [1] [⟨(some 1), none, .box (.t 0)⟩,
    ⟨(some 2), none, .mov (.c (.g (.str [])))⟩,
    ⟨(some 3), none, .mov (.c (.g (.bool false)))⟩]) <|
 .seq (.seq (.reg [1, 9] [⟨(some 7), none, .load true 13 (.t 1)⟩,
     ⟨(some 8), none, .call (.c (.g (.fn 24))) [(.t 7)]⟩,
     ⟨(some 9), none, .un .not (.t 8)⟩]) <|
  .cond [1] (.t 9)
   (.seq (.reg [2, 3] [⟨(some 2), none, .mov (.c (.g (.str [])))⟩,
       ⟨(some 3), none, .mov (.c (.g (.bool false)))⟩]) <|
    .ret)
   (.skip)) <|
 .seq (.reg [1, 4] [⟨(some 4), none, .allocT 62 5 [.z (.nptr), .s 1]⟩]) <|
 .seq (.reg [1, 4] [⟨(some 10), none, .faddr 0 (.t 1)⟩,
    ⟨(some 11), none, .load false 1 (.t 10)⟩,
    ⟨(some 12), none, .faddr 1 (.t 1)⟩,
    ⟨(some 13), none, .load false 1 (.t 12)⟩,
    ⟨(some 14), none, .faddr 2 (.t 1)⟩,
    ⟨(some 15), none, .load false 1 (.t 14)⟩,
    ⟨(some 16), none, .bslice 1 4 [.int .i64 0] [(0, 1, (.c (.g (.int .i64 1)))), (1, 1, (.t 11)), (2, 1, (.t 13)), (3, 1, (.t 15))]⟩,
    ⟨(some 17), none, .call (.c (.g (.fn 25))) [(.t 4), (.t 16)]⟩]) <|
 .seq (.reg [1, 4] [⟨(some 18), none, .faddr 3 (.t 1)⟩,
    ⟨(some 19), none, .load false 1 (.t 18)⟩,
    ⟨(some 20), none, .call (.c (.g (.fn 26))) [(.t 4), (.t 19)]⟩]) <|
 .seq (.reg [1, 4] [⟨(some 21), none, .faddr 4 (.t 1)⟩,
    ⟨(some 22), none, .load false 1 (.t 21)⟩,
    ⟨(some 23), none, .faddr 5 (.t 1)⟩,
    ⟨(some 24), none, .load false 1 (.t 23)⟩,
    ⟨(some 25), none, .bslice 1 2 [.str []] [(0, 1, (.t 22)), (1, 1, (.t 24))]⟩,
    ⟨(some 26), none, .call (.c (.g (.fn 27))) [(.t 4), (.t 25)]⟩]) <|
 .seq (.reg [1, 4] [⟨(some 27), none, .faddr 6 (.t 1)⟩,
    ⟨(some 28), none, .load false 1 (.t 27)⟩,
    ⟨(some 29), none, .faddr 7 (.t 1)⟩,
    ⟨(some 30), none, .load false 1 (.t 29)⟩,
    ⟨(some 31), none, .faddr 8 (.t 1)⟩,
    ⟨(some 32), none, .load false 1 (.t 31)⟩,
    ⟨(some 33), none, .faddr 9 (.t 1)⟩,
    ⟨(some 34), none, .load false 1 (.t 33)⟩,
    ⟨(some 35), none, .faddr 10 (.t 1)⟩,
    ⟨(some 36), none, .faddr 0 (.t 35)⟩,
    ⟨(some 37), none, .load false 1 (.t 36)⟩,
    ⟨(some 38), none, .len (.t 37)⟩,
    ⟨(some 39), none, .bslice 1 5 [.int .i64 0] [(0, 1, (.t 28)), (1, 1, (.t 30)), (2, 1, (.t 32)), (3, 1, (.t 34)), (4, 1, (.t 38))]⟩,
    ⟨(some 40), none, .call (.c (.g (.fn 25))) [(.t 4), (.t 39)]⟩]) <|
 .seq (.seq (.reg [1, 4, 43, 44, 45] [⟨(some 41), none, .faddr 10 (.t 1)⟩,
     ⟨(some 42), none, .faddr 0 (.t 41)⟩,
     ⟨(some 43), none, .load false 1 (.t 42)⟩,
     ⟨(some 44), none, .len (.t 43)⟩,
     ⟨(some 45), none, .mov (.c (.g (.int .i64 0)))⟩]) <|
  .block [1, 4] 0 <|
  .loop [1, 4, 43, 44, 45] [] L14_0) <|
 .seq (.reg [1, 4] [⟨(some 66), none, .faddr 10 (.t 1)⟩,
    ⟨(some 67), none, .faddr 1 (.t 66)⟩,
    ⟨(some 68), none, .load false 1 (.t 67)⟩,
    ⟨(some 69), none, .call (.c (.g (.fn 28))) [(.t 4), (.t 68)]⟩]) <|
 .seq (.reg [4] [⟨(some 70), none, .faddr 10 (.t 1)⟩,
    ⟨(some 71), none, .faddr 2 (.t 70)⟩,
    ⟨(some 72), none, .load false 1 (.t 71)⟩,
    ⟨(some 73), none, .call (.c (.g (.fn 28))) [(.t 4), (.t 72)]⟩]) <|
 .seq (.reg [2, 3] [⟨(some 74), none, .faddr 0 (.t 4)⟩,
    ⟨(some 75), none, .call (.c (.g (.fn 29))) [(.t 74)]⟩,
    ⟨(some 2), none, .mov (.t 75)⟩,
    ⟨(some 3), none, .mov (.c (.g (.bool true)))⟩]) <|
 .ret⟩
def h14 : List (List Nat) := [[1], [1, 9], [1], [2, 3], [1, 4], [1, 4], [1, 4], [1, 4], [1, 4], [1, 4, 43, 44, 45], [1, 4], [1, 4, 43, 44, 45], [1, 4, 43, 44, 45, 46], [1, 4, 43, 44, 45], [1, 4, 43, 44, 45], [1, 4, 6, 43, 44, 45], [1, 4, 6, 43, 44, 45], [1, 4, 6, 43, 44, 45], [1, 4, 43, 44, 45], [1, 4, 43, 44, 45], [1, 4], [4], [2, 3]]
theorem c14 : cFunc Tryz.prog 14 false h14 = some F14 := by kernel_rfl

/-- baton/fence.May -/
def L15_0 : IC :=
 .seq (.reg [1, 3, 7, 8, 9, 10] [⟨(some 10), none, .bin .lss (.t 9) (.t 8)⟩]) <|
 .seq (.cond [1, 3, 7, 8, 9] (.t 10)
   (.skip)
   (.exit 0)) <|
 .seq (.block [1, 3, 7, 8, 9] 1 <|
  .seq (.reg [1, 3, 5, 7, 8, 9] [⟨(some 11), none, .iaddr 3 (.t 7) (.t 9)⟩,
     ⟨(some 12), none, .load true 3 (.t 11)⟩,
     ⟨(some 5), none, .alloc [.z (.int .i64 0), .z (.int .i64 0), .z (.str [])]⟩,
     ⟨none, none, .store 3 (.t 5) (.t 12)⟩]) <|
  .seq (.seq (.reg [1, 3, 5, 7, 8, 9, 16] [⟨(some 13), none, .load true 3 (.t 3)⟩,
      ⟨(some 14), none, .load true 3 (.t 5)⟩,
      ⟨(some 15), none, .call (.c (.g (.fn 21))) [(.t 13), (.t 14)]⟩,
      ⟨(some 16), none, .isnil true 1 (.t 15)⟩]) <|
   .cond [1, 3, 5, 7, 8, 9] (.t 16)
    (.seq (.reg [2] [⟨(some 2), none, .mov (.c (.g (.bool false)))⟩]) <|
     .ret)
    (.skip)) <|
  .reg [1, 3, 7, 8, 9] [⟨(some 17), none, .load true 3 (.t 3)⟩,
    ⟨(some 18), none, .load true 3 (.t 5)⟩,
    ⟨(some 19), none, .call (.c (.g (.fn 23))) [(.t 17), (.t 18)]⟩,
    ⟨none, none, .store 3 (.t 3) (.t 19)⟩]) <|
 .reg [1, 3, 7, 8, 9] [⟨(some 20), none, .bin .add (.t 9) (.c (.g (.int .i64 1)))⟩,
   ⟨(some 9), none, .mov (.t 20)⟩]
def F15 : IFunc := ⟨1, 33, [.tmp 2], false,
 .seq (.reg [1] [⟨(some 1), none, .box (.t 0)⟩,
    ⟨(some 2), none, .mov (.c (.g (.bool false)))⟩]) <|
 .seq (.reg [1, 3] [⟨(some 3), none, .alloc [.z (.int .i64 0), .z (.str []), .s 3]⟩]) <|
 .seq (.seq (.reg [1, 3, 7, 8, 9] [⟨(some 6), none, .faddr 2 (.t 1)⟩,
     ⟨(some 7), none, .load false 1 (.t 6)⟩,
     ⟨(some 8), none, .len (.t 7)⟩,
     ⟨(some 9), none, .mov (.c (.g (.int .i64 0)))⟩]) <|
  .block [1, 3] 0 <|
  .loop [1, 3, 7, 8, 9] [] L15_0) <|
 .seq (.reg [2] [⟨(some 21), none, .faddr 0 (.t 3)⟩,
    ⟨(some 22), none, .load false 1 (.t 21)⟩,
    ⟨(some 23), none, .faddr 0 (.t 1)⟩,
    ⟨(some 24), none, .load false 1 (.t 23)⟩,
    ⟨(some 25), none, .bin .eql (.t 22) (.t 24)⟩,
    ⟨(some 26), none, .mov (.t 25)⟩,
    ⟨(some 27), (some (26, true)), .faddr 1 (.t 3)⟩,
    ⟨(some 28), (some (26, true)), .load false 1 (.t 27)⟩,
    ⟨(some 29), (some (26, true)), .faddr 1 (.t 1)⟩,
    ⟨(some 30), (some (26, true)), .load false 1 (.t 29)⟩,
    ⟨(some 31), (some (26, true)), .bin .eql (.t 28) (.t 30)⟩,
    ⟨(some 32), none, .pick (.t 26) (.t 31) (.c (.g (.bool false)))⟩,
    ⟨(some 2), none, .mov (.t 32)⟩]) <|
 .ret⟩
def h15 : List (List Nat) := [[1], [1, 3], [1, 3, 7, 8, 9], [1, 3], [1, 3, 7, 8, 9], [1, 3, 7, 8, 9, 10], [1, 3, 7, 8, 9], [1, 3, 7, 8, 9], [1, 3, 5, 7, 8, 9], [1, 3, 5, 7, 8, 9, 16], [1, 3, 5, 7, 8, 9], [2], [1, 3, 7, 8, 9], [1, 3, 7, 8, 9], [2]]
theorem c15 : cFunc Tryz.prog 15 false h15 = some F15 := by kernel_rfl

/-- baton/wire.Asked -/
def F16 : IFunc := ⟨1, 65, [.cell 2 true 13, .tmp 3], false,
 .seq (.reg [0, 2] [⟨(some 2), none, .alloc [.z (.int .i64 0), .z (.int .i64 0), .z (.int .i64 0), .z (.bool false), .z (.str []), .z (.str []), .z (.int .i64 0), .z (.int .i64 0), .z (.int .i64 0), .z (.int .i64 0), .s 5, .s 4, .s 4]⟩,
    ⟨(some 3), none, .mov (.c (.g (.bool false)))⟩]) <|
 .seq (.reg [2, 4] [⟨(some 7), none, .mov (.t 0)⟩,
    ⟨(some 8), none, .build [.g (.str []), .g (.bool false)] [(0, 1, (.t 7))]⟩,
    ⟨(some 9), none, .box (.t 8)⟩,
    ⟨(some 4), none, .mov (.t 9)⟩]) <|
 .seq (.reg [2, 4, 5] [⟨(some 10), none, .mov (.t 4)⟩,
    ⟨(some 11), none, .call (.c (.g (.fn 30))) [(.t 10)]⟩,
    ⟨(some 5), none, .mov (.t 11)⟩]) <|
 .seq (.reg [2, 4, 5, 6] [⟨(some 12), none, .mov (.t 4)⟩,
    ⟨(some 13), none, .call (.c (.g (.fn 30))) [(.t 12)]⟩,
    ⟨(some 14), none, .mov (.t 4)⟩,
    ⟨(some 15), none, .call (.c (.g (.fn 30))) [(.t 14)]⟩,
    ⟨(some 16), none, .mov (.t 4)⟩,
    ⟨(some 17), none, .call (.c (.g (.fn 30))) [(.t 16)]⟩,
    ⟨(some 18), none, .mov (.t 4)⟩,
    ⟨(some 19), none, .call (.c (.g (.fn 31))) [(.t 18)]⟩,
    ⟨(some 20), none, .mov (.t 4)⟩,
    ⟨(some 21), none, .call (.c (.g (.fn 32))) [(.t 20)]⟩,
    ⟨(some 22), none, .mov (.t 4)⟩,
    ⟨(some 23), none, .call (.c (.g (.fn 32))) [(.t 22)]⟩,
    ⟨(some 24), none, .mov (.t 4)⟩,
    ⟨(some 25), none, .call (.c (.g (.fn 30))) [(.t 24)]⟩,
    ⟨(some 26), none, .mov (.t 4)⟩,
    ⟨(some 27), none, .call (.c (.g (.fn 30))) [(.t 26)]⟩,
    ⟨(some 28), none, .mov (.t 4)⟩,
    ⟨(some 29), none, .call (.c (.g (.fn 30))) [(.t 28)]⟩,
    ⟨(some 30), none, .mov (.t 4)⟩,
    ⟨(some 31), none, .call (.c (.g (.fn 30))) [(.t 30)]⟩,
    ⟨(some 32), none, .build [.g (.int .i64 0), .g (.int .i64 0), .g (.int .i64 0), .g (.bool false), .g (.str []), .g (.str []), .g (.int .i64 0), .g (.int .i64 0), .g (.int .i64 0), .g (.int .i64 0), .g (.nsl), .g (.nsl), .g (.nsl)] [(0, 1, (.t 13)), (1, 1, (.t 15)), (2, 1, (.t 17)), (3, 1, (.t 19)), (4, 1, (.t 21)), (5, 1, (.t 23)), (6, 1, (.t 25)), (7, 1, (.t 27)), (8, 1, (.t 29)), (9, 1, (.t 31))]⟩,
    ⟨(some 6), none, .alloc [.z (.int .i64 0), .z (.int .i64 0), .z (.int .i64 0), .z (.bool false), .z (.str []), .z (.str []), .z (.int .i64 0), .z (.int .i64 0), .z (.int .i64 0), .z (.int .i64 0), .s 5, .s 4, .s 4]⟩,
    ⟨none, none, .store 13 (.t 6) (.t 32)⟩]) <|
 .seq (.reg [2, 4, 5, 6] [⟨(some 33), none, .mov (.t 4)⟩,
    ⟨(some 34), none, .mov (.t 4)⟩,
    ⟨(some 35), none, .mkbv 34 [(.t 34)]⟩,
    ⟨(some 36), none, .call (.c (.g (.fn 33))) [(.t 33), (.c (.g (.int .i64 4))), (.t 35)]⟩,
    ⟨(some 37), none, .faddr 10 (.t 6)⟩,
    ⟨(some 38), none, .faddr 0 (.t 37)⟩,
    ⟨none, none, .store 1 (.t 38) (.t 36)⟩]) <|
 .seq (.reg [2, 4, 5, 6] [⟨(some 39), none, .mov (.t 4)⟩,
    ⟨(some 40), none, .mov (.t 4)⟩,
    ⟨(some 41), none, .mkbv 36 [(.t 40)]⟩,
    ⟨(some 42), none, .call (.c (.g (.fn 35))) [(.t 39), (.c (.g (.int .i64 4))), (.t 41)]⟩,
    ⟨(some 43), none, .faddr 10 (.t 6)⟩,
    ⟨(some 44), none, .faddr 1 (.t 43)⟩,
    ⟨none, none, .store 1 (.t 44) (.t 42)⟩]) <|
 .seq (.reg [2, 4, 5, 6] [⟨(some 45), none, .mov (.t 4)⟩,
    ⟨(some 46), none, .mov (.t 4)⟩,
    ⟨(some 47), none, .mkbv 36 [(.t 46)]⟩,
    ⟨(some 48), none, .call (.c (.g (.fn 35))) [(.t 45), (.c (.g (.int .i64 4))), (.t 47)]⟩,
    ⟨(some 49), none, .faddr 10 (.t 6)⟩,
    ⟨(some 50), none, .faddr 2 (.t 49)⟩,
    ⟨none, none, .store 1 (.t 50) (.t 48)⟩]) <|
 .seq (.seq (.reg [2, 6, 62] [⟨(some 51), none, .mov (.t 4)⟩,
     ⟨(some 52), none, .call (.c (.g (.fn 37))) [(.t 51)]⟩,
     ⟨(some 53), none, .un .not (.t 52)⟩,
     ⟨(some 54), none, .mov (.t 53)⟩,
     ⟨(some 55), (some (54, false)), .mov (.t 5)⟩,
     ⟨(some 56), (some (54, false)), .bin .neq (.t 55) (.c (.g (.int .i64 1)))⟩,
     ⟨(some 57), none, .pick (.t 54) (.c (.g (.bool true))) (.t 56)⟩,
     ⟨(some 58), none, .mov (.t 57)⟩,
     ⟨(some 59), (some (58, false)), .load true 13 (.t 6)⟩,
     ⟨(some 60), (some (58, false)), .call (.c (.g (.fn 24))) [(.t 59)]⟩,
     ⟨(some 61), (some (58, false)), .un .not (.t 60)⟩,
     ⟨(some 62), none, .pick (.t 58) (.c (.g (.bool true))) (.t 61)⟩]) <|
  .cond [2, 6] (.t 62)
   (.seq (.reg [2, 3] [⟨(some 63), none, .build [.g (.int .i64 0), .g (.int .i64 0), .g (.int .i64 0), .g (.bool false), .g (.str []), .g (.str []), .g (.int .i64 0), .g (.int .i64 0), .g (.int .i64 0), .g (.int .i64 0), .g (.nsl), .g (.nsl), .g (.nsl)] []⟩,
       ⟨none, none, .store 13 (.t 2) (.t 63)⟩,
       ⟨(some 3), none, .mov (.c (.g (.bool false)))⟩]) <|
    .ret)
   (.skip)) <|
 .seq (.reg [2, 3] [⟨(some 64), none, .load true 13 (.t 6)⟩,
    ⟨none, none, .store 13 (.t 2) (.t 64)⟩,
    ⟨(some 3), none, .mov (.c (.g (.bool true)))⟩]) <|
 .ret⟩
def h16 : List (List Nat) := [[0, 2], [2, 4], [2, 4, 5], [2, 4, 5, 6], [2, 4, 5, 6], [2, 4, 5, 6], [2, 4, 5, 6], [2, 6, 62], [2, 6], [2, 3], [2, 3]]
theorem c16 : cFunc Tryz.prog 16 false h16 = some F16 := by kernel_rfl

/-- baton/batonref03.Asked -/
def L17_0 : IC :=
 .seq (.seq (.reg [0, 2, 4, 5, 6, 7, 63] [⟨(some 50), none, .mov (.t 7)⟩,
     ⟨(some 51), none, .mov (.t 6)⟩,
     ⟨(some 52), none, .bin .lss (.t 50) (.t 51)⟩,
     ⟨(some 53), none, .mov (.t 52)⟩,
     ⟨(some 54), (some (53, true)), .mov (.t 4)⟩,
     ⟨(some 55), (some (53, true)), .nilchk (.t 54)⟩,
     ⟨(some 56), (some (53, true)), .faddr 2 (.t 55)⟩,
     ⟨(some 57), (some (53, true)), .load false 1 (.t 56)⟩,
     ⟨(some 58), (some (53, true)), .un .not (.t 57)⟩,
     ⟨(some 59), none, .pick (.t 53) (.t 58) (.c (.g (.bool false)))⟩,
     ⟨(some 60), none, .mov (.t 59)⟩,
     ⟨(some 61), (some (60, true)), .mov (.t 7)⟩,
     ⟨(some 62), (some (60, true)), .bin .leq (.t 61) (.c (.g (.int .i64 4)))⟩,
     ⟨(some 63), none, .pick (.t 60) (.t 62) (.c (.g (.bool false)))⟩]) <|
  .cond [0, 2, 4, 5, 6, 7] (.t 63)
   (.skip)
   (.exit 0)) <|
 .seq (.block [0, 2, 4, 5, 6, 7] 1 <|
  .seq (.reg [0, 2, 4, 5, 6, 7, 8] [⟨(some 66), none, .mov (.t 4)⟩,
     ⟨(some 67), none, .call (.c (.g (.fn 40))) [(.t 66)]⟩,
     ⟨(some 68), none, .build [.g (.str []), .g (.int .i64 0), .g (.int .i64 0), .g (.int .i64 0), .g (.str [])] [(0, 1, (.t 67))]⟩,
     ⟨(some 8), none, .alloc [.z (.str []), .z (.int .i64 0), .z (.int .i64 0), .z (.int .i64 0), .z (.str [])]⟩,
     ⟨none, none, .store 5 (.t 8) (.t 68)⟩]) <|
  .seq (.reg [0, 2, 4, 5, 6, 7, 8] [⟨(some 69), none, .mov (.t 4)⟩,
     ⟨(some 70), none, .call (.c (.g (.fn 38))) [(.t 69)]⟩,
     ⟨(some 71), none, .faddr 1 (.t 8)⟩,
     ⟨none, none, .store 1 (.t 71) (.t 70)⟩]) <|
  .seq (.reg [0, 2, 4, 5, 6, 7, 8] [⟨(some 72), none, .mov (.t 4)⟩,
     ⟨(some 73), none, .call (.c (.g (.fn 38))) [(.t 72)]⟩,
     ⟨(some 74), none, .faddr 2 (.t 8)⟩,
     ⟨none, none, .store 1 (.t 74) (.t 73)⟩]) <|
  .seq (.reg [0, 2, 4, 5, 6, 7, 8] [⟨(some 75), none, .mov (.t 4)⟩,
     ⟨(some 76), none, .call (.c (.g (.fn 38))) [(.t 75)]⟩,
     ⟨(some 77), none, .faddr 3 (.t 8)⟩,
     ⟨none, none, .store 1 (.t 77) (.t 76)⟩]) <|
  .seq (.reg [0, 2, 4, 5, 6, 7, 8] [⟨(some 78), none, .mov (.t 4)⟩,
     ⟨(some 79), none, .call (.c (.g (.fn 40))) [(.t 78)]⟩,
     ⟨(some 80), none, .faddr 4 (.t 8)⟩,
     ⟨none, none, .store 1 (.t 80) (.t 79)⟩]) <|
  .reg [0, 2, 4, 5, 6, 7] [⟨(some 81), none, .faddr 10 (.t 5)⟩,
    ⟨(some 82), none, .faddr 0 (.t 81)⟩,
    ⟨(some 83), none, .load false 1 (.t 82)⟩,
    ⟨(some 84), none, .load true 5 (.t 8)⟩,
    ⟨(some 85), none, .bslice 5 1 [.str [], .int .i64 0, .int .i64 0, .int .i64 0, .str []] [(0, 5, (.t 84))]⟩,
    ⟨(some 86), none, .app 5 56 (.t 83) (.t 85)⟩,
    ⟨(some 87), none, .faddr 10 (.t 5)⟩,
    ⟨(some 88), none, .faddr 0 (.t 87)⟩,
    ⟨none, none, .store 1 (.t 88) (.t 86)⟩]) <|
 .reg [0, 2, 4, 5, 6, 7] [⟨(some 64), none, .mov (.t 7)⟩,
   ⟨(some 65), none, .bin .add (.t 64) (.c (.g (.int .i64 1)))⟩,
   ⟨(some 7), none, .mov (.t 65)⟩]
def F17 : IFunc := ⟨1, 117, [.cell 2 true 13, .tmp 3], false,
 .seq (.reg [0, 2] [⟨(some 2), none, .alloc [.z (.int .i64 0), .z (.int .i64 0), .z (.int .i64 0), .z (.bool false), .z (.str []), .z (.str []), .z (.int .i64 0), .z (.int .i64 0), .z (.int .i64 0), .z (.int .i64 0), .s 5, .s 4, .s 4]⟩,
    ⟨(some 3), none, .mov (.c (.g (.bool false)))⟩]) <|
 .seq (.reg [0, 2, 4] [⟨(some 11), none, .mov (.t 0)⟩,
    ⟨(some 12), none, .build [.g (.str []), .g (.int .i64 0), .g (.bool false)] [(0, 1, (.t 11))]⟩,
    ⟨(some 13), none, .box (.t 12)⟩,
    ⟨(some 4), none, .mov (.t 13)⟩]) <|
 .seq (.seq (.reg [0, 2, 4, 16] [⟨(some 14), none, .mov (.t 4)⟩,
     ⟨(some 15), none, .call (.c (.g (.fn 38))) [(.t 14)]⟩,
     ⟨(some 16), none, .bin .neq (.t 15) (.c (.g (.int .i64 1)))⟩]) <|
  .cond [0, 2, 4] (.t 16)
   (.seq (.reg [2, 3] [⟨(some 17), none, .build [.g (.int .i64 0), .g (.int .i64 0), .g (.int .i64 0), .g (.bool false), .g (.str []), .g (.str []), .g (.int .i64 0), .g (.int .i64 0), .g (.int .i64 0), .g (.int .i64 0), .g (.nsl), .g (.nsl), .g (.nsl)] []⟩,
       ⟨none, none, .store 13 (.t 2) (.t 17)⟩,
       ⟨(some 3), none, .mov (.c (.g (.bool false)))⟩]) <|
    .ret)
   (.skip)) <|
 .seq (.reg [0, 2, 4, 5] [⟨(some 18), none, .mov (.t 4)⟩,
    ⟨(some 19), none, .call (.c (.g (.fn 38))) [(.t 18)]⟩,
    ⟨(some 20), none, .build [.g (.int .i64 0), .g (.int .i64 0), .g (.int .i64 0), .g (.bool false), .g (.str []), .g (.str []), .g (.int .i64 0), .g (.int .i64 0), .g (.int .i64 0), .g (.int .i64 0), .g (.nsl), .g (.nsl), .g (.nsl)] [(0, 1, (.t 19))]⟩,
    ⟨(some 5), none, .alloc [.z (.int .i64 0), .z (.int .i64 0), .z (.int .i64 0), .z (.bool false), .z (.str []), .z (.str []), .z (.int .i64 0), .z (.int .i64 0), .z (.int .i64 0), .z (.int .i64 0), .s 5, .s 4, .s 4]⟩,
    ⟨none, none, .store 13 (.t 5) (.t 20)⟩]) <|
 .seq (.reg [0, 2, 4, 5] [⟨(some 21), none, .mov (.t 4)⟩,
    ⟨(some 22), none, .call (.c (.g (.fn 38))) [(.t 21)]⟩,
    ⟨(some 23), none, .faddr 1 (.t 5)⟩,
    ⟨none, none, .store 1 (.t 23) (.t 22)⟩]) <|
 .seq (.reg [0, 2, 4, 5] [⟨(some 24), none, .mov (.t 4)⟩,
    ⟨(some 25), none, .call (.c (.g (.fn 38))) [(.t 24)]⟩,
    ⟨(some 26), none, .faddr 2 (.t 5)⟩,
    ⟨none, none, .store 1 (.t 26) (.t 25)⟩]) <|
 .seq (.reg [0, 2, 4, 5] [⟨(some 27), none, .mov (.t 4)⟩,
    ⟨(some 28), none, .call (.c (.g (.fn 39))) [(.t 27)]⟩,
    ⟨(some 29), none, .faddr 3 (.t 5)⟩,
    ⟨none, none, .store 1 (.t 29) (.t 28)⟩]) <|
 .seq (.reg [0, 2, 4, 5] [⟨(some 30), none, .mov (.t 4)⟩,
    ⟨(some 31), none, .call (.c (.g (.fn 40))) [(.t 30)]⟩,
    ⟨(some 32), none, .faddr 4 (.t 5)⟩,
    ⟨none, none, .store 1 (.t 32) (.t 31)⟩]) <|
 .seq (.reg [0, 2, 4, 5] [⟨(some 33), none, .mov (.t 4)⟩,
    ⟨(some 34), none, .call (.c (.g (.fn 40))) [(.t 33)]⟩,
    ⟨(some 35), none, .faddr 5 (.t 5)⟩,
    ⟨none, none, .store 1 (.t 35) (.t 34)⟩]) <|
 .seq (.reg [0, 2, 4, 5] [⟨(some 36), none, .mov (.t 4)⟩,
    ⟨(some 37), none, .call (.c (.g (.fn 38))) [(.t 36)]⟩,
    ⟨(some 38), none, .faddr 6 (.t 5)⟩,
    ⟨none, none, .store 1 (.t 38) (.t 37)⟩]) <|
 .seq (.reg [0, 2, 4, 5] [⟨(some 39), none, .mov (.t 4)⟩,
    ⟨(some 40), none, .call (.c (.g (.fn 38))) [(.t 39)]⟩,
    ⟨(some 41), none, .faddr 7 (.t 5)⟩,
    ⟨none, none, .store 1 (.t 41) (.t 40)⟩]) <|
 .seq (.reg [0, 2, 4, 5] [⟨(some 42), none, .mov (.t 4)⟩,
    ⟨(some 43), none, .call (.c (.g (.fn 38))) [(.t 42)]⟩,
    ⟨(some 44), none, .faddr 8 (.t 5)⟩,
    ⟨none, none, .store 1 (.t 44) (.t 43)⟩]) <|
 .seq (.reg [0, 2, 4, 5] [⟨(some 45), none, .mov (.t 4)⟩,
    ⟨(some 46), none, .call (.c (.g (.fn 38))) [(.t 45)]⟩,
    ⟨(some 47), none, .faddr 9 (.t 5)⟩,
    ⟨none, none, .store 1 (.t 47) (.t 46)⟩]) <|
 .seq (.reg [0, 2, 4, 5, 6] [⟨(some 48), none, .mov (.t 4)⟩,
    ⟨(some 49), none, .call (.c (.g (.fn 38))) [(.t 48)]⟩,
    ⟨(some 6), none, .mov (.t 49)⟩]) <|
 .seq (.seq (.reg [0, 2, 4, 5, 6, 7] [⟨(some 7), none, .mov (.c (.g (.int .i64 0)))⟩]) <|
  .block [0, 2, 4, 5] 0 <|
  .loop [0, 2, 4, 5, 6, 7] [] L17_0) <|
 .seq (.reg [0, 2, 4, 5] [⟨(some 89), none, .mov (.t 4)⟩,
    ⟨(some 90), none, .call (.c (.g (.fn 41))) [(.t 89)]⟩,
    ⟨(some 91), none, .faddr 10 (.t 5)⟩,
    ⟨(some 92), none, .faddr 1 (.t 91)⟩,
    ⟨none, none, .store 1 (.t 92) (.t 90)⟩]) <|
 .seq (.reg [0, 2, 4, 5] [⟨(some 93), none, .mov (.t 4)⟩,
    ⟨(some 94), none, .call (.c (.g (.fn 41))) [(.t 93)]⟩,
    ⟨(some 95), none, .faddr 10 (.t 5)⟩,
    ⟨(some 96), none, .faddr 2 (.t 95)⟩,
    ⟨none, none, .store 1 (.t 96) (.t 94)⟩]) <|
 .seq (.reg [0, 2, 4, 5, 9, 10] [⟨(some 98), none, .load true 13 (.t 5)⟩,
    ⟨(some 99), none, .call (.c (.g (.fn 42))) [(.t 98)]⟩,
    ⟨(some 97), none, .mov (.t 99)⟩,
    ⟨(some 100), none, .ext 0 (.t 97)⟩,
    ⟨(some 101), none, .ext 1 (.t 97)⟩,
    ⟨(some 9), none, .mov (.t 100)⟩,
    ⟨(some 10), none, .mov (.t 101)⟩]) <|
 .seq (.seq (.reg [2, 5, 114] [⟨(some 102), none, .mov (.t 4)⟩,
     ⟨(some 103), none, .nilchk (.t 102)⟩,
     ⟨(some 104), none, .faddr 2 (.t 103)⟩,
     ⟨(some 105), none, .load false 1 (.t 104)⟩,
     ⟨(some 106), none, .mov (.t 105)⟩,
     ⟨(some 107), (some (106, false)), .mov (.t 10)⟩,
     ⟨(some 108), (some (106, false)), .un .not (.t 107)⟩,
     ⟨(some 109), none, .pick (.t 106) (.c (.g (.bool true))) (.t 108)⟩,
     ⟨(some 110), none, .mov (.t 109)⟩,
     ⟨(some 111), (some (110, false)), .mov (.t 9)⟩,
     ⟨(some 112), (some (110, false)), .mov (.t 0)⟩,
     ⟨(some 113), (some (110, false)), .bin .neq (.t 111) (.t 112)⟩,
     ⟨(some 114), none, .pick (.t 110) (.c (.g (.bool true))) (.t 113)⟩]) <|
  .cond [2, 5] (.t 114)
   (.seq (.reg [2, 3] [⟨(some 115), none, .build [.g (.int .i64 0), .g (.int .i64 0), .g (.int .i64 0), .g (.bool false), .g (.str []), .g (.str []), .g (.int .i64 0), .g (.int .i64 0), .g (.int .i64 0), .g (.int .i64 0), .g (.nsl), .g (.nsl), .g (.nsl)] []⟩,
       ⟨none, none, .store 13 (.t 2) (.t 115)⟩,
       ⟨(some 3), none, .mov (.c (.g (.bool false)))⟩]) <|
    .ret)
   (.skip)) <|
 .seq (.reg [2, 3] [⟨(some 116), none, .load true 13 (.t 5)⟩,
    ⟨none, none, .store 13 (.t 2) (.t 116)⟩,
    ⟨(some 3), none, .mov (.c (.g (.bool true)))⟩]) <|
 .ret⟩
def h17 : List (List Nat) := [[0, 2], [0, 2, 4], [0, 2, 4, 16], [0, 2, 4], [2, 3], [0, 2, 4, 5], [0, 2, 4, 5], [0, 2, 4, 5], [0, 2, 4, 5], [0, 2, 4, 5], [0, 2, 4, 5], [0, 2, 4, 5], [0, 2, 4, 5], [0, 2, 4, 5], [0, 2, 4, 5], [0, 2, 4, 5, 6], [0, 2, 4, 5, 6, 7], [0, 2, 4, 5], [0, 2, 4, 5, 6, 7], [0, 2, 4, 5, 6, 7, 63], [0, 2, 4, 5, 6, 7], [0, 2, 4, 5, 6, 7], [0, 2, 4, 5, 6, 7, 8], [0, 2, 4, 5, 6, 7, 8], [0, 2, 4, 5, 6, 7, 8], [0, 2, 4, 5, 6, 7, 8], [0, 2, 4, 5, 6, 7, 8], [0, 2, 4, 5, 6, 7], [0, 2, 4, 5, 6, 7], [0, 2, 4, 5], [0, 2, 4, 5], [0, 2, 4, 5, 9, 10], [2, 5, 114], [2, 5], [2, 3], [2, 3]]
theorem c17 : cFunc Tryz.prog 17 false h17 = some F17 := by kernel_rfl

/-- baton/batonref20.Write -/
def F18 : IFunc := ⟨4, 46, [.cell 8 true 3, .tmp 9], false,
 .seq (.reg [1, 2, 3, 4, 8] [⟨(some 4), none, .box (.t 0)⟩,
    ⟨(some 8), none, .alloc [.z (.int .i64 0), .z (.str []), .s 3]⟩,
    ⟨(some 9), none, .mov (.c (.g (.int .i64 0)))⟩]) <|
 .seq (.seq (.reg [1, 2, 3, 4, 8, 15] [⟨(some 11), none, .mov (.t 1)⟩,
     ⟨(some 12), none, .mov (.t 2)⟩,
     ⟨(some 13), none, .mov (.t 3)⟩,
     ⟨(some 14), none, .call (.c (.g (.fn 43))) [(.t 11), (.t 12), (.t 13)]⟩,
     ⟨(some 15), none, .un .not (.t 14)⟩]) <|
  .cond [1, 2, 3, 4, 8] (.t 15)
   (.seq (.reg [8, 9] [⟨(some 16), none, .load true 3 (.t 4)⟩,
       ⟨none, none, .store 3 (.t 8) (.t 16)⟩,
       ⟨(some 9), none, .mov (.c (.g (.int .i64 1)))⟩]) <|
    .ret)
   (.skip)) <|
 .seq (.seq (.reg [1, 2, 3, 4, 8, 20] [⟨(some 17), none, .mov (.t 2)⟩,
     ⟨(some 18), none, .faddr 0 (.t 4)⟩,
     ⟨(some 19), none, .load false 1 (.t 18)⟩,
     ⟨(some 20), none, .bin .lss (.t 17) (.t 19)⟩]) <|
  .cond [1, 2, 3, 4, 8] (.t 20)
   (.seq (.reg [8, 9] [⟨(some 21), none, .load true 3 (.t 4)⟩,
       ⟨none, none, .store 3 (.t 8) (.t 21)⟩,
       ⟨(some 9), none, .mov (.c (.g (.int .i64 10)))⟩]) <|
    .ret)
   (.skip)) <|
 .seq (.seq (.reg [1, 2, 3, 4, 8, 25] [⟨(some 22), none, .faddr 2 (.t 4)⟩,
     ⟨(some 23), none, .load false 1 (.t 22)⟩,
     ⟨(some 24), none, .len (.t 23)⟩,
     ⟨(some 25), none, .bin .geq (.t 24) (.c (.g (.int .i64 40)))⟩]) <|
  .cond [1, 2, 3, 4, 8] (.t 25)
   (.seq (.reg [8, 9] [⟨(some 26), none, .load true 3 (.t 4)⟩,
       ⟨none, none, .store 3 (.t 8) (.t 26)⟩,
       ⟨(some 9), none, .mov (.c (.g (.int .i64 4)))⟩]) <|
    .ret)
   (.skip)) <|
 .seq (.reg [1, 2, 3, 4, 8, 10] [⟨(some 27), none, .mov (.t 2)⟩,
    ⟨(some 28), none, .mov (.t 3)⟩,
    ⟨(some 29), none, .build [.g (.int .i64 0), .g (.str []), .g (.nsl)] [(0, 1, (.t 27)), (1, 1, (.t 28))]⟩,
    ⟨(some 10), none, .alloc [.z (.int .i64 0), .z (.str []), .s 3]⟩,
    ⟨none, none, .store 3 (.t 10) (.t 29)⟩]) <|
 .seq (.reg [1, 2, 3, 8, 10] [⟨(some 30), none, .faddr 2 (.t 10)⟩,
    ⟨(some 31), none, .load false 1 (.t 30)⟩,
    ⟨(some 32), none, .faddr 2 (.t 4)⟩,
    ⟨(some 33), none, .load false 1 (.t 32)⟩,
    ⟨(some 34), none, .app 3 32 (.t 31) (.t 33)⟩,
    ⟨(some 35), none, .faddr 2 (.t 10)⟩,
    ⟨none, none, .store 1 (.t 35) (.t 34)⟩]) <|
 .seq (.reg [8, 10] [⟨(some 36), none, .faddr 2 (.t 10)⟩,
    ⟨(some 37), none, .load false 1 (.t 36)⟩,
    ⟨(some 38), none, .mov (.t 1)⟩,
    ⟨(some 39), none, .mov (.t 2)⟩,
    ⟨(some 40), none, .mov (.t 3)⟩,
    ⟨(some 41), none, .build [.g (.int .i64 0), .g (.int .i64 0), .g (.str [])] [(0, 1, (.t 38)), (1, 1, (.t 39)), (2, 1, (.t 40))]⟩,
    ⟨(some 42), none, .bslice 3 1 [.int .i64 0, .int .i64 0, .str []] [(0, 3, (.t 41))]⟩,
    ⟨(some 43), none, .app 3 32 (.t 37) (.t 42)⟩,
    ⟨(some 44), none, .faddr 2 (.t 10)⟩,
    ⟨none, none, .store 1 (.t 44) (.t 43)⟩]) <|
 .seq (.reg [8, 9] [⟨(some 45), none, .load true 3 (.t 10)⟩,
    ⟨none, none, .store 3 (.t 8) (.t 45)⟩,
    ⟨(some 9), none, .mov (.c (.g (.int .i64 0)))⟩]) <|
 .ret⟩
def h18 : List (List Nat) := [[1, 2, 3, 4, 8], [1, 2, 3, 4, 8, 15], [1, 2, 3, 4, 8], [8, 9], [1, 2, 3, 4, 8, 20], [1, 2, 3, 4, 8], [8, 9], [1, 2, 3, 4, 8, 25], [1, 2, 3, 4, 8], [8, 9], [1, 2, 3, 4, 8, 10], [1, 2, 3, 8, 10], [8, 10], [8, 9]]
theorem c18 : cFunc Tryz.prog 18 false h18 = some F18 := by kernel_rfl

/-- baton/fence.once -/
def F19 : IFunc := ⟨1, 7, [.tmp 2], false,
 .seq (.reg [0] [⟨(some 2), none, .nres 1⟩]) <|
 .seq (.reg [0] [⟨(some 3), none, .mov (.t 0)⟩,
    ⟨(some 4), none, .call (.c (.g (.fn 44))) [(.t 3)]⟩]) <|
 .seq (.reg [2] [⟨(some 5), none, .mov (.t 0)⟩,
    ⟨(some 6), none, .call (.c (.g (.fn 45))) [(.t 5)]⟩,
    ⟨(some 2), none, .mov (.t 6)⟩]) <|
 .ret⟩
def h19 : List (List Nat) := [[0], [0], [2]]
theorem c19 : cFunc Tryz.prog 19 false h19 = some F19 := by kernel_rfl

/-- baton/batonref20.put -/
def L20_0 : IC :=
 .seq (.seq (.reg [0, 1, 5, 18] [⟨(some 7), none, .mov (.t 5)⟩,
     ⟨(some 8), none, .mov (.t 0)⟩,
     ⟨(some 9), none, .len (.t 8)⟩,
     ⟨(some 10), none, .bin .lss (.t 7) (.t 9)⟩,
     ⟨(some 11), none, .mov (.t 10)⟩,
     ⟨(some 12), (some (11, true)), .mov (.t 0)⟩,
     ⟨(some 13), (some (11, true)), .mov (.t 5)⟩,
     ⟨(some 14), (some (11, true)), .iaddr 1 (.t 12) (.t 13)⟩,
     ⟨(some 15), (some (11, true)), .load false 1 (.t 14)⟩,
     ⟨(some 16), (some (11, true)), .mov (.t 1)⟩,
     ⟨(some 17), (some (11, true)), .bin .lss (.t 15) (.t 16)⟩,
     ⟨(some 18), none, .pick (.t 11) (.t 17) (.c (.g (.bool false)))⟩]) <|
  .cond [0, 1, 5] (.t 18)
   (.skip)
   (.exit 0)) <|
 .block [0, 1, 5] 1 <|
 .reg [0, 1, 5] [⟨(some 19), none, .mov (.t 5)⟩,
   ⟨(some 20), none, .bin .add (.t 19) (.c (.g (.int .i64 1)))⟩,
   ⟨(some 5), none, .mov (.t 20)⟩]
def F20 : IFunc := ⟨2, 48, [.tmp 4], false,
 .seq (.reg [0, 1] [⟨(some 4), none, .nres 1⟩]) <|
 .seq (.reg [0, 1, 5] [⟨(some 5), none, .mov (.c (.g (.int .i64 0)))⟩]) <|
 .seq (.block [0, 1, 5] 0 <|
  .loop [0, 1, 5] [] L20_0) <|
 .seq (.seq (.reg [0, 1, 5, 32] [⟨(some 21), none, .mov (.t 5)⟩,
     ⟨(some 22), none, .mov (.t 0)⟩,
     ⟨(some 23), none, .len (.t 22)⟩,
     ⟨(some 24), none, .bin .lss (.t 21) (.t 23)⟩,
     ⟨(some 25), none, .mov (.t 24)⟩,
     ⟨(some 26), (some (25, true)), .mov (.t 0)⟩,
     ⟨(some 27), (some (25, true)), .mov (.t 5)⟩,
     ⟨(some 28), (some (25, true)), .iaddr 1 (.t 26) (.t 27)⟩,
     ⟨(some 29), (some (25, true)), .load false 1 (.t 28)⟩,
     ⟨(some 30), (some (25, true)), .mov (.t 1)⟩,
     ⟨(some 31), (some (25, true)), .bin .eql (.t 29) (.t 30)⟩,
     ⟨(some 32), none, .pick (.t 25) (.t 31) (.c (.g (.bool false)))⟩]) <|
  .cond [0, 1, 5] (.t 32)
   (.seq (.reg [4] [⟨(some 33), none, .mov (.t 0)⟩,
       ⟨(some 4), none, .mov (.t 33)⟩]) <|
    .ret)
   (.skip)) <|
 .seq (.reg [0, 1, 5, 6] [⟨(some 34), none, .mk0 1⟩,
    ⟨(some 35), none, .mov (.t 0)⟩,
    ⟨(some 36), none, .mov (.t 5)⟩,
    ⟨(some 37), none, .slc 1 (.t 35) none (some (.t 36))⟩,
    ⟨(some 38), none, .app 1 8 (.t 34) (.t 37)⟩,
    ⟨(some 6), none, .mov (.t 38)⟩]) <|
 .seq (.reg [0, 5, 6] [⟨(some 39), none, .mov (.t 6)⟩,
    ⟨(some 40), none, .mov (.t 1)⟩,
    ⟨(some 41), none, .bslice 1 1 [.int .i64 0] [(0, 1, (.t 40))]⟩,
    ⟨(some 42), none, .app 1 8 (.t 39) (.t 41)⟩,
    ⟨(some 6), none, .mov (.t 42)⟩]) <|
 .seq (.reg [4] [⟨(some 43), none, .mov (.t 6)⟩,
    ⟨(some 44), none, .mov (.t 0)⟩,
    ⟨(some 45), none, .mov (.t 5)⟩,
    ⟨(some 46), none, .slc 1 (.t 44) (some (.t 45)) none⟩,
    ⟨(some 47), none, .app 1 8 (.t 43) (.t 46)⟩,
    ⟨(some 4), none, .mov (.t 47)⟩]) <|
 .ret⟩
def h20 : List (List Nat) := [[0, 1], [0, 1, 5], [0, 1, 5], [0, 1, 5], [0, 1, 5, 18], [0, 1, 5], [0, 1, 5], [0, 1, 5], [0, 1, 5, 32], [0, 1, 5], [4], [0, 1, 5, 6], [0, 5, 6], [4]]
theorem c20 : cFunc Tryz.prog 20 false h20 = some F20 := by kernel_rfl

/-- baton/fence.check -/
def F21 : IFunc := ⟨2, 51, [.tmp 4], true,
 .seq (.reg [2, 3] [⟨(some 2), none, .box (.t 0)⟩,
    ⟨(some 3), none, .box (.t 1)⟩,
    ⟨(some 4), none, .mov (.c (.g (.nif)))⟩]) <|
 .seq (.reg [2, 3] [⟨(some 5), none, .mov (.c (.g (.nif)))⟩]) <|
 .seq (.block [3, 5] 0 <|
  .seq (.reg [2, 3, 6] [⟨(some 7), none, .faddr 1 (.t 3)⟩,
     ⟨(some 8), none, .load false 1 (.t 7)⟩,
     ⟨(some 9), none, .bin .lss (.t 8) (.c (.g (.int .i64 1)))⟩,
     ⟨(some 10), none, .mov (.t 9)⟩,
     ⟨(some 11), (some (10, false)), .faddr 1 (.t 3)⟩,
     ⟨(some 12), (some (10, false)), .load false 1 (.t 11)⟩,
     ⟨(some 13), (some (10, false)), .bin .gtr (.t 12) (.c (.g (.int .i64 1099511627775)))⟩,
     ⟨(some 14), none, .pick (.t 10) (.c (.g (.bool true))) (.t 13)⟩,
     ⟨(some 15), none, .mov (.t 14)⟩,
     ⟨(some 16), (some (15, false)), .faddr 0 (.t 3)⟩,
     ⟨(some 17), (some (15, false)), .load false 1 (.t 16)⟩,
     ⟨(some 18), (some (15, false)), .bin .lss (.t 17) (.c (.g (.int .i64 0)))⟩,
     ⟨(some 19), none, .pick (.t 15) (.c (.g (.bool true))) (.t 18)⟩,
     ⟨(some 20), none, .mov (.t 19)⟩,
     ⟨(some 21), (some (20, false)), .faddr 0 (.t 3)⟩,
     ⟨(some 22), (some (20, false)), .load false 1 (.t 21)⟩,
     ⟨(some 23), (some (20, false)), .bin .gtr (.t 22) (.c (.g (.int .i64 1099511627775)))⟩,
     ⟨(some 24), none, .pick (.t 20) (.c (.g (.bool true))) (.t 23)⟩,
     ⟨(some 25), none, .mov (.t 24)⟩,
     ⟨(some 26), (some (25, false)), .faddr 2 (.t 3)⟩,
     ⟨(some 27), (some (25, false)), .load false 1 (.t 26)⟩,
     ⟨(some 28), (some (25, false)), .lenS (.t 27)⟩,
     ⟨(some 29), (some (25, false)), .bin .gtr (.t 28) (.c (.g (.int .i64 20)))⟩,
     ⟨(some 30), none, .pick (.t 25) (.c (.g (.bool true))) (.t 29)⟩,
     ⟨(some 6), none, .mov (.t 30)⟩]) <|
  .cond [3, 5] (.t 6)
   (.reg [3, 5] [⟨(some 31), none, .glob 0⟩,
      ⟨(some 5), none, .mov (.t 31)⟩])
   (.seq (.reg [2, 3, 32] [⟨(some 33), none, .faddr 1 (.t 3)⟩,
       ⟨(some 34), none, .load false 1 (.t 33)⟩,
       ⟨(some 35), none, .faddr 0 (.t 2)⟩,
       ⟨(some 36), none, .load false 1 (.t 35)⟩,
       ⟨(some 37), none, .bin .lss (.t 34) (.t 36)⟩,
       ⟨(some 32), none, .mov (.t 37)⟩]) <|
    .cond [3, 5] (.t 32)
     (.reg [3, 5] [⟨(some 38), none, .glob 1⟩,
        ⟨(some 5), none, .mov (.t 38)⟩])
     (.seq (.reg [3, 39] [⟨(some 40), none, .faddr 2 (.t 2)⟩,
         ⟨(some 41), none, .load false 1 (.t 40)⟩,
         ⟨(some 42), none, .len (.t 41)⟩,
         ⟨(some 43), none, .bin .geq (.t 42) (.c (.g (.int .i64 40)))⟩,
         ⟨(some 39), none, .mov (.t 43)⟩]) <|
      .cond [3, 5] (.t 39)
       (.reg [3, 5] [⟨(some 44), none, .glob 2⟩,
          ⟨(some 5), none, .mov (.t 44)⟩])
       (.seq (.reg [4] [⟨(some 4), none, .mov (.c (.g (.nif)))⟩]) <|
        .ret)))) <|
 .seq (.reg [4] [⟨(some 45), none, .faddr 1 (.t 3)⟩,
    ⟨(some 46), none, .load false 1 (.t 45)⟩,
    ⟨(some 47), none, .mov (.t 5)⟩,
    ⟨(some 48), none, .build [.g (.int .i64 0), .g (.nif)] [(0, 1, (.t 46)), (1, 1, (.t 47))]⟩,
    ⟨(some 49), none, .box (.t 48)⟩,
    ⟨(some 50), none, .mkif 86 (.t 49)⟩,
    ⟨(some 4), none, .mov (.t 50)⟩]) <|
 .ret⟩
def h21 : List (List Nat) := [[2, 3], [2, 3], [3, 5], [2, 3, 6], [3, 5], [3, 5], [2, 3, 32], [3, 5], [3, 5], [3, 39], [3, 5], [3, 5], [4], [4]]
theorem c21 : cFunc Tryz.prog 21 true h21 = some F21 := by kernel_rfl

/-- baton/fence.code -/
def F22 : IFunc := ⟨1, 15, [.tmp 2], false,
 .seq (.reg [0] [⟨(some 2), none, .mov (.c (.g (.int .i64 0)))⟩]) <|
 .seq (.block [] 0 <|
  .seq (.reg [0, 3] [⟨(some 4), none, .mov (.t 0)⟩,
     ⟨(some 5), none, .glob 0⟩,
     ⟨(some 6), none, .call (.c (.g (.fn 46))) [(.t 4), (.t 5)]⟩,
     ⟨(some 3), none, .mov (.t 6)⟩]) <|
  .cond [] (.t 3)
   (.seq (.reg [2] [⟨(some 2), none, .mov (.c (.g (.int .i64 1)))⟩]) <|
    .ret)
   (.seq (.reg [0, 7] [⟨(some 8), none, .mov (.t 0)⟩,
       ⟨(some 9), none, .glob 1⟩,
       ⟨(some 10), none, .call (.c (.g (.fn 46))) [(.t 8), (.t 9)]⟩,
       ⟨(some 7), none, .mov (.t 10)⟩]) <|
    .cond [] (.t 7)
     (.seq (.reg [2] [⟨(some 2), none, .mov (.c (.g (.int .i64 10)))⟩]) <|
      .ret)
     (.seq (.reg [11] [⟨(some 12), none, .mov (.t 0)⟩,
         ⟨(some 13), none, .glob 2⟩,
         ⟨(some 14), none, .call (.c (.g (.fn 46))) [(.t 12), (.t 13)]⟩,
         ⟨(some 11), none, .mov (.t 14)⟩]) <|
      .cond [] (.t 11)
       (.seq (.reg [2] [⟨(some 2), none, .mov (.c (.g (.int .i64 4)))⟩]) <|
        .ret)
       (.skip)))) <|
 .seq (.reg [2] [⟨(some 2), none, .mov (.c (.g (.int .i64 0)))⟩]) <|
 .ret⟩
def h22 : List (List Nat) := [[0], [], [0, 3], [], [2], [0, 7], [], [2], [11], [], [2], [2]]
theorem c22 : cFunc Tryz.prog 22 false h22 = some F22 := by kernel_rfl

/-- baton/fence.take -/
def F23 : IFunc := ⟨2, 16, [.cell 4 true 3], false,
 .seq (.reg [2, 3, 4] [⟨(some 2), none, .box (.t 0)⟩,
    ⟨(some 3), none, .box (.t 1)⟩,
    ⟨(some 4), none, .alloc [.z (.int .i64 0), .z (.str []), .s 3]⟩]) <|
 .seq (.drw [4] 0 <|
  .take ⟨(some 5), none, .faddr 1 (.t 3)⟩ <|
  .take ⟨(some 6), none, .load false 1 (.t 5)⟩ <|
  .take ⟨(some 7), none, .faddr 2 (.t 3)⟩ <|
  .take ⟨(some 8), none, .load false 1 (.t 7)⟩ <|
  .take ⟨(some 9), none, .faddr 2 (.t 2)⟩ <|
  .take ⟨(some 10), none, .load false 1 (.t 9)⟩ <|
  .take ⟨(some 11), none, .load true 3 (.t 3)⟩ <|
  .one ⟨(some 12), none, .bslice 3 1 [.int .i64 0, .int .i64 0, .str []] [(0, 3, (.t 11))]⟩ <|
  .one ⟨(some 13), none, .bslice 1 2 [.nsl] [(0, 1, (.t 10)), (1, 1, (.t 12))]⟩ <|
  .one ⟨(some 14), none, .call (.c (.g (.fn 47))) [(.t 13)]⟩ <|
  .take ⟨(some 15), none, .build [.g (.int .i64 0), .g (.str []), .g (.nsl)] [(0, 1, (.t 6)), (1, 1, (.t 8)), (2, 1, (.t 14))]⟩ <|
  .free <|
  .one ⟨none, none, .store 3 (.t 4) (.t 15)⟩ <|
  .leaf) <|
 .ret⟩
def h23 : List (List Nat) := [[2, 3, 4], [4], []]
theorem c23 : cFunc Tryz.prog 23 false h23 = some F23 := by kernel_rfl

/-- baton/wire.MayAsk -/
def F24 : IFunc := ⟨1, 52, [.tmp 2], false,
 .seq (.reg [1] [⟨(some 1), none, .box (.t 0)⟩,
    ⟨(some 2), none, .mov (.c (.g (.bool false)))⟩]) <|
 .seq (.seq (.reg [1, 35] [⟨(some 3), none, .faddr 0 (.t 1)⟩,
     ⟨(some 4), none, .load false 1 (.t 3)⟩,
     ⟨(some 5), none, .bin .lss (.t 4) (.c (.g (.int .i64 1)))⟩,
     ⟨(some 6), none, .mov (.t 5)⟩,
     ⟨(some 7), (some (6, false)), .faddr 0 (.t 1)⟩,
     ⟨(some 8), (some (6, false)), .load false 1 (.t 7)⟩,
     ⟨(some 9), (some (6, false)), .bin .gtr (.t 8) (.c (.g (.int .i64 8)))⟩,
     ⟨(some 10), none, .pick (.t 6) (.c (.g (.bool true))) (.t 9)⟩,
     ⟨(some 11), none, .mov (.t 10)⟩,
     ⟨(some 12), (some (11, false)), .faddr 4 (.t 1)⟩,
     ⟨(some 13), (some (11, false)), .load false 1 (.t 12)⟩,
     ⟨(some 14), (some (11, false)), .faddr 5 (.t 1)⟩,
     ⟨(some 15), (some (11, false)), .load false 1 (.t 14)⟩,
     ⟨(some 16), (some (11, false)), .call (.c (.g (.fn 48))) [(.t 13), (.t 15)]⟩,
     ⟨(some 17), (some (11, false)), .un .not (.t 16)⟩,
     ⟨(some 18), none, .pick (.t 11) (.c (.g (.bool true))) (.t 17)⟩,
     ⟨(some 19), none, .mov (.t 18)⟩,
     ⟨(some 20), (some (19, false)), .faddr 1 (.t 1)⟩,
     ⟨(some 21), (some (19, false)), .load false 1 (.t 20)⟩,
     ⟨(some 22), (some (19, false)), .faddr 2 (.t 1)⟩,
     ⟨(some 23), (some (19, false)), .load false 1 (.t 22)⟩,
     ⟨(some 24), (some (19, false)), .faddr 6 (.t 1)⟩,
     ⟨(some 25), (some (19, false)), .load false 1 (.t 24)⟩,
     ⟨(some 26), (some (19, false)), .faddr 7 (.t 1)⟩,
     ⟨(some 27), (some (19, false)), .load false 1 (.t 26)⟩,
     ⟨(some 28), (some (19, false)), .faddr 8 (.t 1)⟩,
     ⟨(some 29), (some (19, false)), .load false 1 (.t 28)⟩,
     ⟨(some 30), (some (19, false)), .faddr 9 (.t 1)⟩,
     ⟨(some 31), (some (19, false)), .load false 1 (.t 30)⟩,
     ⟨(some 32), (some (19, false)), .bslice 1 6 [.int .i64 0] [(0, 1, (.t 21)), (1, 1, (.t 23)), (2, 1, (.t 25)), (3, 1, (.t 27)), (4, 1, (.t 29)), (5, 1, (.t 31))]⟩,
     ⟨(some 33), (some (19, false)), .call (.c (.g (.fn 49))) [(.t 32)]⟩,
     ⟨(some 34), (some (19, false)), .un .not (.t 33)⟩,
     ⟨(some 35), none, .pick (.t 19) (.c (.g (.bool true))) (.t 34)⟩]) <|
  .cond [1] (.t 35)
   (.seq (.reg [2] [⟨(some 2), none, .mov (.c (.g (.bool false)))⟩]) <|
    .ret)
   (.skip)) <|
 .seq (.reg [2] [⟨(some 36), none, .faddr 10 (.t 1)⟩,
    ⟨(some 37), none, .faddr 0 (.t 36)⟩,
    ⟨(some 38), none, .load false 1 (.t 37)⟩,
    ⟨(some 39), none, .call (.c (.g (.fn 50))) [(.t 38), (.c (.g (.int .i64 4))), (.c (.g (.fn 51)))]⟩,
    ⟨(some 40), none, .mov (.t 39)⟩,
    ⟨(some 41), (some (40, true)), .faddr 10 (.t 1)⟩,
    ⟨(some 42), (some (40, true)), .faddr 1 (.t 41)⟩,
    ⟨(some 43), (some (40, true)), .load false 1 (.t 42)⟩,
    ⟨(some 44), (some (40, true)), .call (.c (.g (.fn 52))) [(.t 43), (.c (.g (.int .i64 4))), (.c (.g (.fn 53)))]⟩,
    ⟨(some 45), none, .pick (.t 40) (.t 44) (.c (.g (.bool false)))⟩,
    ⟨(some 46), none, .mov (.t 45)⟩,
    ⟨(some 47), (some (46, true)), .faddr 10 (.t 1)⟩,
    ⟨(some 48), (some (46, true)), .faddr 2 (.t 47)⟩,
    ⟨(some 49), (some (46, true)), .load false 1 (.t 48)⟩,
    ⟨(some 50), (some (46, true)), .call (.c (.g (.fn 52))) [(.t 49), (.c (.g (.int .i64 4))), (.c (.g (.fn 53)))]⟩,
    ⟨(some 51), none, .pick (.t 46) (.t 50) (.c (.g (.bool false)))⟩,
    ⟨(some 2), none, .mov (.t 51)⟩]) <|
 .ret⟩
def h24 : List (List Nat) := [[1], [1, 35], [1], [2], [2]]
theorem c24 : cFunc Tryz.prog 24 false h24 = some F24 := by kernel_rfl

/-- (*baton/wire.writer).n -/
def L25_0 : IC :=
 .seq (.reg [0, 6, 7, 8, 9] [⟨(some 9), none, .bin .lss (.t 8) (.t 7)⟩]) <|
 .seq (.cond [0, 6, 7, 8] (.t 9)
   (.skip)
   (.exit 0)) <|
 .seq (.block [0, 6, 7, 8] 1 <|
  .seq (.reg [0, 5, 6, 7, 8] [⟨(some 10), none, .iaddr 1 (.t 6) (.t 8)⟩,
     ⟨(some 11), none, .load false 1 (.t 10)⟩,
     ⟨(some 5), none, .mov (.t 11)⟩]) <|
  .drw [0, 6, 7, 8] 0 <|
  .free <|
  .take ⟨(some 12), none, .mov (.t 0)⟩ <|
  .take ⟨(some 13), none, .nilchk (.t 12)⟩ <|
  .take ⟨(some 14), none, .faddr 0 (.t 13)⟩ <|
  .take ⟨(some 15), none, .mov (.t 5)⟩ <|
  .take ⟨(some 16), none, .conv .u64 (.t 15)⟩ <|
  .one ⟨(some 17), none, .call (.c (.g (.fn 55))) [(.t 16)]⟩ <|
  .one ⟨(some 18), none, .call (.c (.g (.fn 54))) [(.t 14), (.t 17)]⟩ <|
  .leaf) <|
 .reg [0, 6, 7, 8] [⟨(some 19), none, .bin .add (.t 8) (.c (.g (.int .i64 1)))⟩,
   ⟨(some 8), none, .mov (.t 19)⟩]
def F25 : IFunc := ⟨2, 20, [], false,
 .seq (.reg [0, 6, 7, 8] [⟨(some 6), none, .mov (.t 1)⟩,
    ⟨(some 7), none, .len (.t 6)⟩,
    ⟨(some 8), none, .mov (.c (.g (.int .i64 0)))⟩]) <|
 .block [] 0 <|
 .loop [0, 6, 7, 8] [] L25_0⟩
def h25 : List (List Nat) := [[0, 6, 7, 8], [], [0, 6, 7, 8], [0, 6, 7, 8, 9], [0, 6, 7, 8], [0, 6, 7, 8], [0, 5, 6, 7, 8], [0, 6, 7, 8], [], [0, 6, 7, 8]]
theorem c25 : cFunc Tryz.prog 25 false h25 = some F25 := by kernel_rfl

/-- (*baton/wire.writer).b -/
def F26 : IFunc := ⟨2, 11, [], false,
 .seq (.reg [0, 4] [⟨(some 4), none, .mov (.t 1)⟩]) <|
 .cond [] (.t 4)
  (.reg [] [⟨(some 5), none, .mov (.t 0)⟩,
     ⟨(some 6), none, .bslice 1 1 [.int .i64 0] [(0, 1, (.c (.g (.int .i64 1))))]⟩,
     ⟨(some 7), none, .call (.c (.g (.fn 25))) [(.t 5), (.t 6)]⟩])
  (.reg [] [⟨(some 8), none, .mov (.t 0)⟩,
     ⟨(some 9), none, .bslice 1 1 [.int .i64 0] [(0, 1, (.c (.g (.int .i64 0))))]⟩,
     ⟨(some 10), none, .call (.c (.g (.fn 25))) [(.t 8), (.t 9)]⟩])⟩
def h26 : List (List Nat) := [[0, 4], [], [], []]
theorem c26 : cFunc Tryz.prog 26 false h26 = some F26 := by kernel_rfl

/-- (*baton/wire.writer).t -/
def L27_0 : IC :=
 .seq (.reg [0, 6, 7, 8, 9] [⟨(some 9), none, .bin .lss (.t 8) (.t 7)⟩]) <|
 .seq (.cond [0, 6, 7, 8] (.t 9)
   (.skip)
   (.exit 0)) <|
 .seq (.block [0, 6, 7, 8] 1 <|
  .seq (.reg [0, 5, 6, 7, 8] [⟨(some 10), none, .iaddr 1 (.t 6) (.t 8)⟩,
     ⟨(some 11), none, .load false 1 (.t 10)⟩,
     ⟨(some 5), none, .mov (.t 11)⟩]) <|
  .seq (.reg [0, 5, 6, 7, 8] [⟨(some 12), none, .mov (.t 0)⟩,
     ⟨(some 13), none, .mov (.t 5)⟩,
     ⟨(some 14), none, .lenS (.t 13)⟩,
     ⟨(some 15), none, .bslice 1 1 [.int .i64 0] [(0, 1, (.t 14))]⟩,
     ⟨(some 16), none, .call (.c (.g (.fn 25))) [(.t 12), (.t 15)]⟩]) <|
  .reg [0, 6, 7, 8] [⟨(some 17), none, .mov (.t 0)⟩,
    ⟨(some 18), none, .nilchk (.t 17)⟩,
    ⟨(some 19), none, .faddr 0 (.t 18)⟩,
    ⟨(some 20), none, .mov (.t 5)⟩,
    ⟨(some 21), none, .call (.c (.g (.fn 54))) [(.t 19), (.t 20)]⟩]) <|
 .reg [0, 6, 7, 8] [⟨(some 22), none, .bin .add (.t 8) (.c (.g (.int .i64 1)))⟩,
   ⟨(some 8), none, .mov (.t 22)⟩]
def F27 : IFunc := ⟨2, 23, [], false,
 .seq (.reg [0, 6, 7, 8] [⟨(some 6), none, .mov (.t 1)⟩,
    ⟨(some 7), none, .len (.t 6)⟩,
    ⟨(some 8), none, .mov (.c (.g (.int .i64 0)))⟩]) <|
 .block [] 0 <|
 .loop [0, 6, 7, 8] [] L27_0⟩
def h27 : List (List Nat) := [[0, 6, 7, 8], [], [0, 6, 7, 8], [0, 6, 7, 8, 9], [0, 6, 7, 8], [0, 6, 7, 8], [0, 5, 6, 7, 8], [0, 5, 6, 7, 8], [0, 6, 7, 8], [0, 6, 7, 8]]
theorem c27 : cFunc Tryz.prog 27 false h27 = some F27 := by kernel_rfl

/-- (*baton/wire.writer).muts -/
def L28_0 : IC :=
 .seq (.reg [0, 11, 12, 13, 14] [⟨(some 14), none, .bin .lss (.t 13) (.t 12)⟩]) <|
 .seq (.cond [0, 11, 12, 13] (.t 14)
   (.skip)
   (.exit 0)) <|
 .seq (.block [0, 11, 12, 13] 1 <|
  .seq (.reg [0, 5, 11, 12, 13] [⟨(some 15), none, .iaddr 4 (.t 11) (.t 13)⟩,
     ⟨(some 16), none, .load true 4 (.t 15)⟩,
     ⟨(some 5), none, .alloc [.z (.bool false), .z (.str []), .z (.str []), .z (.int .i64 0)]⟩,
     ⟨none, none, .store 4 (.t 5) (.t 16)⟩]) <|
  .seq (.reg [0, 5, 11, 12, 13] [⟨(some 17), none, .mov (.t 0)⟩,
     ⟨(some 18), none, .faddr 0 (.t 5)⟩,
     ⟨(some 19), none, .load false 1 (.t 18)⟩,
     ⟨(some 20), none, .call (.c (.g (.fn 26))) [(.t 17), (.t 19)]⟩]) <|
  .seq (.reg [0, 5, 11, 12, 13] [⟨(some 21), none, .mov (.t 0)⟩,
     ⟨(some 22), none, .faddr 1 (.t 5)⟩,
     ⟨(some 23), none, .load false 1 (.t 22)⟩,
     ⟨(some 24), none, .faddr 2 (.t 5)⟩,
     ⟨(some 25), none, .load false 1 (.t 24)⟩,
     ⟨(some 26), none, .bslice 1 2 [.str []] [(0, 1, (.t 23)), (1, 1, (.t 25))]⟩,
     ⟨(some 27), none, .call (.c (.g (.fn 27))) [(.t 21), (.t 26)]⟩]) <|
  .reg [0, 11, 12, 13] [⟨(some 28), none, .mov (.t 0)⟩,
    ⟨(some 29), none, .faddr 3 (.t 5)⟩,
    ⟨(some 30), none, .load false 1 (.t 29)⟩,
    ⟨(some 31), none, .bslice 1 1 [.int .i64 0] [(0, 1, (.t 30))]⟩,
    ⟨(some 32), none, .call (.c (.g (.fn 25))) [(.t 28), (.t 31)]⟩]) <|
 .reg [0, 11, 12, 13] [⟨(some 33), none, .bin .add (.t 13) (.c (.g (.int .i64 1)))⟩,
   ⟨(some 13), none, .mov (.t 33)⟩]
def F28 : IFunc := ⟨2, 34, [], false,
 .seq (.reg [0, 1] [⟨(some 6), none, .mov (.t 0)⟩,
    ⟨(some 7), none, .mov (.t 1)⟩,
    ⟨(some 8), none, .len (.t 7)⟩,
    ⟨(some 9), none, .bslice 1 1 [.int .i64 0] [(0, 1, (.t 8))]⟩,
    ⟨(some 10), none, .call (.c (.g (.fn 25))) [(.t 6), (.t 9)]⟩]) <|
 .seq (.reg [0, 11, 12, 13] [⟨(some 11), none, .mov (.t 1)⟩,
    ⟨(some 12), none, .len (.t 11)⟩,
    ⟨(some 13), none, .mov (.c (.g (.int .i64 0)))⟩]) <|
 .block [] 0 <|
 .loop [0, 11, 12, 13] [] L28_0⟩
def h28 : List (List Nat) := [[0, 1], [0, 11, 12, 13], [], [0, 11, 12, 13], [0, 11, 12, 13, 14], [0, 11, 12, 13], [0, 11, 12, 13], [0, 5, 11, 12, 13], [0, 5, 11, 12, 13], [0, 5, 11, 12, 13], [0, 11, 12, 13], [0, 11, 12, 13]]
theorem c28 : cFunc Tryz.prog 28 false h28 = some F28 := by kernel_rfl

/-- (*strings.Builder).String -/
def F29 : IFunc := ⟨1, 14, [.tmp 2], false,
 .seq (.reg [0] [⟨(some 2), none, .mov (.c (.g (.str [])))⟩]) <|
 .seq (.drw [2] 0 <|
  .take ⟨(some 3), none, .mov (.t 0)⟩ <|
  .take ⟨(some 4), none, .nilchk (.t 3)⟩ <|
  .take ⟨(some 5), none, .faddr 1 (.t 4)⟩ <|
  .take ⟨(some 6), none, .load false 1 (.t 5)⟩ <|
  .take ⟨(some 8), none, .mov (.t 0)⟩ <|
  .take ⟨(some 9), none, .nilchk (.t 8)⟩ <|
  .take ⟨(some 10), none, .faddr 1 (.t 9)⟩ <|
  .take ⟨(some 11), none, .load false 1 (.t 10)⟩ <|
  .take ⟨(some 12), none, .len (.t 11)⟩ <|
  .one ⟨(some 7), none, .sdata (.t 6)⟩ <|
  .one ⟨(some 13), none, .ustr 5 (.t 7) (.t 12)⟩ <|
  .free <|
  .take ⟨(some 2), none, .mov (.t 13)⟩ <|
  .leaf) <|
 .ret⟩
def h29 : List (List Nat) := [[0], [2], []]
theorem c29 : cFunc Tryz.prog 29 false h29 = some F29 := by kernel_rfl

/-- (*baton/wire.reader).n -/
def F30 : IFunc := ⟨1, 45, [.tmp 2], false,
 .seq (.reg [0] [⟨(some 2), none, .mov (.c (.g (.int .i64 0)))⟩]) <|
 .seq (.reg [0, 3, 4, 5] [⟨(some 7), none, .mov (.t 0)⟩,
    ⟨(some 8), none, .nilchk (.t 7)⟩,
    ⟨(some 9), none, .faddr 0 (.t 8)⟩,
    ⟨(some 10), none, .load false 1 (.t 9)⟩,
    ⟨(some 11), none, .call (.c (.g (.fn 56))) [(.t 10), (.c (.g (.int .i64 0)))]⟩,
    ⟨(some 6), none, .mov (.t 11)⟩,
    ⟨(some 12), none, .ext 0 (.t 6)⟩,
    ⟨(some 13), none, .ext 1 (.t 6)⟩,
    ⟨(some 14), none, .ext 2 (.t 6)⟩,
    ⟨(some 3), none, .mov (.t 12)⟩,
    ⟨(some 4), none, .mov (.t 13)⟩,
    ⟨(some 5), none, .mov (.t 14)⟩]) <|
 .seq (.seq (.reg [0, 3, 4] [⟨(some 15), none, .mov (.t 0)⟩,
     ⟨(some 16), none, .mov (.t 0)⟩,
     ⟨(some 17), none, .nilchk (.t 16)⟩,
     ⟨(some 18), none, .faddr 1 (.t 17)⟩,
     ⟨(some 19), none, .load false 1 (.t 18)⟩,
     ⟨(some 20), none, .mov (.t 19)⟩,
     ⟨(some 21), (some (20, false)), .mov (.t 5)⟩,
     ⟨(some 22), (some (20, false)), .bin .neq (.t 21) (.c (.g (.int .i64 0)))⟩,
     ⟨(some 23), none, .pick (.t 20) (.c (.g (.bool true))) (.t 22)⟩,
     ⟨(some 24), none, .mov (.t 23)⟩,
     ⟨(some 25), (some (24, false)), .mov (.t 3)⟩,
     ⟨(some 26), (some (24, false)), .bin .gtr (.t 25) (.c (.g (.int .u64 1099511627775)))⟩,
     ⟨(some 27), none, .pick (.t 24) (.c (.g (.bool true))) (.t 26)⟩,
     ⟨(some 28), none, .nilchk (.t 15)⟩,
     ⟨(some 29), none, .faddr 1 (.t 28)⟩,
     ⟨none, none, .store 1 (.t 29) (.t 27)⟩]) <|
  .seq (.reg [0, 3, 4, 33] [⟨(some 30), none, .mov (.t 0)⟩,
     ⟨(some 31), none, .nilchk (.t 30)⟩,
     ⟨(some 32), none, .faddr 1 (.t 31)⟩,
     ⟨(some 33), none, .load false 1 (.t 32)⟩]) <|
  .cond [0, 3, 4] (.t 33)
   (.seq (.reg [2] [⟨(some 2), none, .mov (.c (.g (.int .i64 0)))⟩]) <|
    .ret)
   (.skip)) <|
 .seq (.reg [3] [⟨(some 34), none, .mov (.t 0)⟩,
    ⟨(some 35), none, .mov (.t 0)⟩,
    ⟨(some 36), none, .nilchk (.t 35)⟩,
    ⟨(some 37), none, .faddr 0 (.t 36)⟩,
    ⟨(some 38), none, .load false 1 (.t 37)⟩,
    ⟨(some 39), none, .mov (.t 4)⟩,
    ⟨(some 40), none, .slcS (.t 38) (some (.t 39)) none⟩,
    ⟨(some 41), none, .nilchk (.t 34)⟩,
    ⟨(some 42), none, .faddr 0 (.t 41)⟩,
    ⟨none, none, .store 1 (.t 42) (.t 40)⟩]) <|
 .seq (.reg [2] [⟨(some 43), none, .mov (.t 3)⟩,
    ⟨(some 44), none, .conv .i64 (.t 43)⟩,
    ⟨(some 2), none, .mov (.t 44)⟩]) <|
 .ret⟩
def h30 : List (List Nat) := [[0], [0, 3, 4, 5], [0, 3, 4], [0, 3, 4, 33], [0, 3, 4], [2], [3], [2]]
theorem c30 : cFunc Tryz.prog 30 false h30 = some F30 := by kernel_rfl

/-- (*baton/wire.reader).b -/
def F31 : IFunc := ⟨1, 19, [.tmp 2], false,
 .seq (.reg [0] [⟨(some 2), none, .mov (.c (.g (.bool false)))⟩]) <|
 .seq (.reg [0, 3] [⟨(some 4), none, .mov (.t 0)⟩,
    ⟨(some 5), none, .call (.c (.g (.fn 30))) [(.t 4)]⟩,
    ⟨(some 3), none, .mov (.t 5)⟩]) <|
 .seq (.reg [3] [⟨(some 6), none, .mov (.t 0)⟩,
    ⟨(some 7), none, .mov (.t 0)⟩,
    ⟨(some 8), none, .nilchk (.t 7)⟩,
    ⟨(some 9), none, .faddr 1 (.t 8)⟩,
    ⟨(some 10), none, .load false 1 (.t 9)⟩,
    ⟨(some 11), none, .mov (.t 10)⟩,
    ⟨(some 12), (some (11, false)), .mov (.t 3)⟩,
    ⟨(some 13), (some (11, false)), .bin .gtr (.t 12) (.c (.g (.int .i64 1)))⟩,
    ⟨(some 14), none, .pick (.t 11) (.c (.g (.bool true))) (.t 13)⟩,
    ⟨(some 15), none, .nilchk (.t 6)⟩,
    ⟨(some 16), none, .faddr 1 (.t 15)⟩,
    ⟨none, none, .store 1 (.t 16) (.t 14)⟩]) <|
 .seq (.reg [2] [⟨(some 17), none, .mov (.t 3)⟩,
    ⟨(some 18), none, .bin .eql (.t 17) (.c (.g (.int .i64 1)))⟩,
    ⟨(some 2), none, .mov (.t 18)⟩]) <|
 .ret⟩
def h31 : List (List Nat) := [[0], [0, 3], [3], [2]]
theorem c31 : cFunc Tryz.prog 31 false h31 = some F31 := by kernel_rfl

/-- (*baton/wire.reader).t -/
def F32 : IFunc := ⟨1, 43, [.tmp 2], false,
 .seq (.reg [0] [⟨(some 2), none, .mov (.c (.g (.str [])))⟩]) <|
 .seq (.reg [0, 3] [⟨(some 5), none, .mov (.t 0)⟩,
    ⟨(some 6), none, .call (.c (.g (.fn 30))) [(.t 5)]⟩,
    ⟨(some 3), none, .mov (.t 6)⟩]) <|
 .seq (.seq (.reg [0, 3] [⟨(some 7), none, .mov (.t 0)⟩,
     ⟨(some 8), none, .mov (.t 0)⟩,
     ⟨(some 9), none, .nilchk (.t 8)⟩,
     ⟨(some 10), none, .faddr 1 (.t 9)⟩,
     ⟨(some 11), none, .load false 1 (.t 10)⟩,
     ⟨(some 12), none, .mov (.t 11)⟩,
     ⟨(some 13), (some (12, false)), .mov (.t 3)⟩,
     ⟨(some 14), (some (12, false)), .mov (.t 0)⟩,
     ⟨(some 15), (some (12, false)), .nilchk (.t 14)⟩,
     ⟨(some 16), (some (12, false)), .faddr 0 (.t 15)⟩,
     ⟨(some 17), (some (12, false)), .load false 1 (.t 16)⟩,
     ⟨(some 18), (some (12, false)), .lenS (.t 17)⟩,
     ⟨(some 19), (some (12, false)), .bin .gtr (.t 13) (.t 18)⟩,
     ⟨(some 20), none, .pick (.t 12) (.c (.g (.bool true))) (.t 19)⟩,
     ⟨(some 21), none, .nilchk (.t 7)⟩,
     ⟨(some 22), none, .faddr 1 (.t 21)⟩,
     ⟨none, none, .store 1 (.t 22) (.t 20)⟩]) <|
  .seq (.reg [0, 3, 26] [⟨(some 23), none, .mov (.t 0)⟩,
     ⟨(some 24), none, .nilchk (.t 23)⟩,
     ⟨(some 25), none, .faddr 1 (.t 24)⟩,
     ⟨(some 26), none, .load false 1 (.t 25)⟩]) <|
  .cond [0, 3] (.t 26)
   (.seq (.reg [2] [⟨(some 2), none, .mov (.c (.g (.str [])))⟩]) <|
    .ret)
   (.skip)) <|
 .seq (.reg [0, 3, 4] [⟨(some 27), none, .mov (.t 0)⟩,
    ⟨(some 28), none, .nilchk (.t 27)⟩,
    ⟨(some 29), none, .faddr 0 (.t 28)⟩,
    ⟨(some 30), none, .load false 1 (.t 29)⟩,
    ⟨(some 31), none, .mov (.t 3)⟩,
    ⟨(some 32), none, .slcS (.t 30) none (some (.t 31))⟩,
    ⟨(some 4), none, .mov (.t 32)⟩]) <|
 .seq (.reg [4] [⟨(some 33), none, .mov (.t 0)⟩,
    ⟨(some 34), none, .mov (.t 0)⟩,
    ⟨(some 35), none, .nilchk (.t 34)⟩,
    ⟨(some 36), none, .faddr 0 (.t 35)⟩,
    ⟨(some 37), none, .load false 1 (.t 36)⟩,
    ⟨(some 38), none, .mov (.t 3)⟩,
    ⟨(some 39), none, .slcS (.t 37) (some (.t 38)) none⟩,
    ⟨(some 40), none, .nilchk (.t 33)⟩,
    ⟨(some 41), none, .faddr 0 (.t 40)⟩,
    ⟨none, none, .store 1 (.t 41) (.t 39)⟩]) <|
 .seq (.reg [2] [⟨(some 42), none, .mov (.t 4)⟩,
    ⟨(some 2), none, .mov (.t 42)⟩]) <|
 .ret⟩
def h32 : List (List Nat) := [[0], [0, 3], [0, 3], [0, 3, 26], [0, 3], [2], [0, 3, 4], [4], [2]]
theorem c32 : cFunc Tryz.prog 32 false h32 = some F32 := by kernel_rfl

/-- baton/wire.list[baton/api.Cmp] -/
def L33_0 : IC :=
 .seq (.reg [0, 2, 8, 23, 24, 25] [⟨(some 25), none, .bin .lss (.t 24) (.t 23)⟩]) <|
 .seq (.cond [0, 2, 8, 23, 24] (.t 25)
   (.skip)
   (.exit 0)) <|
 .seq (.block [0, 2, 8, 23, 24] 1 <|
  .seq (.seq (.reg [0, 2, 8, 23, 24, 29] [⟨(some 26), none, .mov (.t 0)⟩,
      ⟨(some 27), none, .nilchk (.t 26)⟩,
      ⟨(some 28), none, .faddr 1 (.t 27)⟩,
      ⟨(some 29), none, .load false 1 (.t 28)⟩]) <|
   .cond [0, 2, 8, 23, 24] (.t 29)
    (.seq (.reg [6] [⟨(some 6), none, .nres 5⟩]) <|
     .ret)
    (.skip)) <|
  .reg [0, 2, 8, 23, 24] [⟨(some 30), none, .mov (.t 8)⟩,
    ⟨(some 31), none, .mov (.t 2)⟩,
    ⟨(some 32), none, .call (.t 31) []⟩,
    ⟨(some 33), none, .bslice 5 1 [.str [], .int .i64 0, .int .i64 0, .int .i64 0, .str []] [(0, 5, (.t 32))]⟩,
    ⟨(some 34), none, .app 5 56 (.t 30) (.t 33)⟩,
    ⟨(some 8), none, .mov (.t 34)⟩]) <|
 .reg [0, 2, 8, 23, 24] [⟨(some 35), none, .bin .add (.t 24) (.c (.g (.int .i64 1)))⟩,
   ⟨(some 24), none, .mov (.t 35)⟩]
def F33 : IFunc := ⟨3, 37, [.tmp 6], false,
 .seq (.reg [0, 1, 2] [⟨(some 6), none, .nres 5⟩]) <|
 .seq (.reg [0, 1, 2, 7] [⟨(some 9), none, .mov (.t 0)⟩,
    ⟨(some 10), none, .call (.c (.g (.fn 30))) [(.t 9)]⟩,
    ⟨(some 7), none, .mov (.t 10)⟩]) <|
 .seq (.reg [0, 2, 7] [⟨(some 11), none, .mov (.t 0)⟩,
    ⟨(some 12), none, .mov (.t 0)⟩,
    ⟨(some 13), none, .nilchk (.t 12)⟩,
    ⟨(some 14), none, .faddr 1 (.t 13)⟩,
    ⟨(some 15), none, .load false 1 (.t 14)⟩,
    ⟨(some 16), none, .mov (.t 15)⟩,
    ⟨(some 17), (some (16, false)), .mov (.t 7)⟩,
    ⟨(some 18), (some (16, false)), .mov (.t 1)⟩,
    ⟨(some 19), (some (16, false)), .bin .gtr (.t 17) (.t 18)⟩,
    ⟨(some 20), none, .pick (.t 16) (.c (.g (.bool true))) (.t 19)⟩,
    ⟨(some 21), none, .nilchk (.t 11)⟩,
    ⟨(some 22), none, .faddr 1 (.t 21)⟩,
    ⟨none, none, .store 1 (.t 22) (.t 20)⟩]) <|
 .seq (.reg [0, 2, 7, 8] [⟨(some 8), none, .nres 5⟩]) <|
 .seq (.seq (.reg [0, 2, 8, 23, 24] [⟨(some 23), none, .mov (.t 7)⟩,
     ⟨(some 24), none, .mov (.c (.g (.int .i64 0)))⟩]) <|
  .block [8] 0 <|
  .loop [0, 2, 8, 23, 24] [] L33_0) <|
 .seq (.reg [6] [⟨(some 36), none, .mov (.t 8)⟩,
    ⟨(some 6), none, .mov (.t 36)⟩]) <|
 .ret⟩
def h33 : List (List Nat) := [[0, 1, 2], [0, 1, 2, 7], [0, 2, 7], [0, 2, 7, 8], [0, 2, 8, 23, 24], [8], [0, 2, 8, 23, 24], [0, 2, 8, 23, 24, 25], [0, 2, 8, 23, 24], [0, 2, 8, 23, 24], [0, 2, 8, 23, 24, 29], [0, 2, 8, 23, 24], [6], [0, 2, 8, 23, 24], [0, 2, 8, 23, 24], [6]]
theorem c33 : cFunc Tryz.prog 33 false h33 = some F33 := by kernel_rfl

/-- (*baton/wire.reader).cmp -/
def F34 : IFunc := ⟨1, 14, [.cell 2 true 5], false,
 .seq (.reg [0, 2] [⟨(some 2), none, .alloc [.z (.str []), .z (.int .i64 0), .z (.int .i64 0), .z (.int .i64 0), .z (.str [])]⟩]) <|
 .seq (.reg [2] [⟨(some 3), none, .mov (.t 0)⟩,
    ⟨(some 4), none, .call (.c (.g (.fn 32))) [(.t 3)]⟩,
    ⟨(some 5), none, .mov (.t 0)⟩,
    ⟨(some 6), none, .call (.c (.g (.fn 30))) [(.t 5)]⟩,
    ⟨(some 7), none, .mov (.t 0)⟩,
    ⟨(some 8), none, .call (.c (.g (.fn 30))) [(.t 7)]⟩,
    ⟨(some 9), none, .mov (.t 0)⟩,
    ⟨(some 10), none, .call (.c (.g (.fn 30))) [(.t 9)]⟩,
    ⟨(some 11), none, .mov (.t 0)⟩,
    ⟨(some 12), none, .call (.c (.g (.fn 32))) [(.t 11)]⟩,
    ⟨(some 13), none, .build [.g (.str []), .g (.int .i64 0), .g (.int .i64 0), .g (.int .i64 0), .g (.str [])] [(0, 1, (.t 4)), (1, 1, (.t 6)), (2, 1, (.t 8)), (3, 1, (.t 10)), (4, 1, (.t 12))]⟩,
    ⟨none, none, .store 5 (.t 2) (.t 13)⟩]) <|
 .ret⟩
def h34 : List (List Nat) := [[0, 2], [2]]
theorem c34 : cFunc Tryz.prog 34 false h34 = some F34 := by kernel_rfl

/-- baton/wire.list[baton/api.Mut] -/
def L35_0 : IC :=
 .seq (.reg [0, 2, 8, 23, 24, 25] [⟨(some 25), none, .bin .lss (.t 24) (.t 23)⟩]) <|
 .seq (.cond [0, 2, 8, 23, 24] (.t 25)
   (.skip)
   (.exit 0)) <|
 .seq (.block [0, 2, 8, 23, 24] 1 <|
  .seq (.seq (.reg [0, 2, 8, 23, 24, 29] [⟨(some 26), none, .mov (.t 0)⟩,
      ⟨(some 27), none, .nilchk (.t 26)⟩,
      ⟨(some 28), none, .faddr 1 (.t 27)⟩,
      ⟨(some 29), none, .load false 1 (.t 28)⟩]) <|
   .cond [0, 2, 8, 23, 24] (.t 29)
    (.seq (.reg [6] [⟨(some 6), none, .nres 4⟩]) <|
     .ret)
    (.skip)) <|
  .reg [0, 2, 8, 23, 24] [⟨(some 30), none, .mov (.t 8)⟩,
    ⟨(some 31), none, .mov (.t 2)⟩,
    ⟨(some 32), none, .call (.t 31) []⟩,
    ⟨(some 33), none, .bslice 4 1 [.bool false, .str [], .str [], .int .i64 0] [(0, 4, (.t 32))]⟩,
    ⟨(some 34), none, .app 4 48 (.t 30) (.t 33)⟩,
    ⟨(some 8), none, .mov (.t 34)⟩]) <|
 .reg [0, 2, 8, 23, 24] [⟨(some 35), none, .bin .add (.t 24) (.c (.g (.int .i64 1)))⟩,
   ⟨(some 24), none, .mov (.t 35)⟩]
def F35 : IFunc := ⟨3, 37, [.tmp 6], false,
 .seq (.reg [0, 1, 2] [⟨(some 6), none, .nres 4⟩]) <|
 .seq (.reg [0, 1, 2, 7] [⟨(some 9), none, .mov (.t 0)⟩,
    ⟨(some 10), none, .call (.c (.g (.fn 30))) [(.t 9)]⟩,
    ⟨(some 7), none, .mov (.t 10)⟩]) <|
 .seq (.reg [0, 2, 7] [⟨(some 11), none, .mov (.t 0)⟩,
    ⟨(some 12), none, .mov (.t 0)⟩,
    ⟨(some 13), none, .nilchk (.t 12)⟩,
    ⟨(some 14), none, .faddr 1 (.t 13)⟩,
    ⟨(some 15), none, .load false 1 (.t 14)⟩,
    ⟨(some 16), none, .mov (.t 15)⟩,
    ⟨(some 17), (some (16, false)), .mov (.t 7)⟩,
    ⟨(some 18), (some (16, false)), .mov (.t 1)⟩,
    ⟨(some 19), (some (16, false)), .bin .gtr (.t 17) (.t 18)⟩,
    ⟨(some 20), none, .pick (.t 16) (.c (.g (.bool true))) (.t 19)⟩,
    ⟨(some 21), none, .nilchk (.t 11)⟩,
    ⟨(some 22), none, .faddr 1 (.t 21)⟩,
    ⟨none, none, .store 1 (.t 22) (.t 20)⟩]) <|
 .seq (.reg [0, 2, 7, 8] [⟨(some 8), none, .nres 4⟩]) <|
 .seq (.seq (.reg [0, 2, 8, 23, 24] [⟨(some 23), none, .mov (.t 7)⟩,
     ⟨(some 24), none, .mov (.c (.g (.int .i64 0)))⟩]) <|
  .block [8] 0 <|
  .loop [0, 2, 8, 23, 24] [] L35_0) <|
 .seq (.reg [6] [⟨(some 36), none, .mov (.t 8)⟩,
    ⟨(some 6), none, .mov (.t 36)⟩]) <|
 .ret⟩
def h35 : List (List Nat) := [[0, 1, 2], [0, 1, 2, 7], [0, 2, 7], [0, 2, 7, 8], [0, 2, 8, 23, 24], [8], [0, 2, 8, 23, 24], [0, 2, 8, 23, 24, 25], [0, 2, 8, 23, 24], [0, 2, 8, 23, 24], [0, 2, 8, 23, 24, 29], [0, 2, 8, 23, 24], [6], [0, 2, 8, 23, 24], [0, 2, 8, 23, 24], [6]]
theorem c35 : cFunc Tryz.prog 35 false h35 = some F35 := by kernel_rfl

/-- (*baton/wire.reader).mut -/
def F36 : IFunc := ⟨1, 12, [.cell 2 true 4], false,
 .seq (.reg [0, 2] [⟨(some 2), none, .alloc [.z (.bool false), .z (.str []), .z (.str []), .z (.int .i64 0)]⟩]) <|
 .seq (.reg [2] [⟨(some 3), none, .mov (.t 0)⟩,
    ⟨(some 4), none, .call (.c (.g (.fn 31))) [(.t 3)]⟩,
    ⟨(some 5), none, .mov (.t 0)⟩,
    ⟨(some 6), none, .call (.c (.g (.fn 32))) [(.t 5)]⟩,
    ⟨(some 7), none, .mov (.t 0)⟩,
    ⟨(some 8), none, .call (.c (.g (.fn 32))) [(.t 7)]⟩,
    ⟨(some 9), none, .mov (.t 0)⟩,
    ⟨(some 10), none, .call (.c (.g (.fn 30))) [(.t 9)]⟩,
    ⟨(some 11), none, .build [.g (.bool false), .g (.str []), .g (.str []), .g (.int .i64 0)] [(0, 1, (.t 4)), (1, 1, (.t 6)), (2, 1, (.t 8)), (3, 1, (.t 10))]⟩,
    ⟨none, none, .store 4 (.t 2) (.t 11)⟩]) <|
 .ret⟩
def h36 : List (List Nat) := [[0, 2], [2]]
theorem c36 : cFunc Tryz.prog 36 false h36 = some F36 := by kernel_rfl

/-- (*baton/wire.reader).end -/
def F37 : IFunc := ⟨1, 15, [.tmp 2], false,
 .seq (.reg [0] [⟨(some 2), none, .mov (.c (.g (.bool false)))⟩]) <|
 .seq (.reg [2] [⟨(some 3), none, .mov (.t 0)⟩,
    ⟨(some 4), none, .nilchk (.t 3)⟩,
    ⟨(some 5), none, .faddr 1 (.t 4)⟩,
    ⟨(some 6), none, .load false 1 (.t 5)⟩,
    ⟨(some 7), none, .un .not (.t 6)⟩,
    ⟨(some 8), none, .mov (.t 7)⟩,
    ⟨(some 9), (some (8, true)), .mov (.t 0)⟩,
    ⟨(some 10), (some (8, true)), .nilchk (.t 9)⟩,
    ⟨(some 11), (some (8, true)), .faddr 0 (.t 10)⟩,
    ⟨(some 12), (some (8, true)), .load false 1 (.t 11)⟩,
    ⟨(some 13), (some (8, true)), .bin .eql (.t 12) (.c (.g (.str [])))⟩,
    ⟨(some 14), none, .pick (.t 8) (.t 13) (.c (.g (.bool false)))⟩,
    ⟨(some 2), none, .mov (.t 14)⟩]) <|
 .ret⟩
def h37 : List (List Nat) := [[0], [2]]
theorem c37 : cFunc Tryz.prog 37 false h37 = some F37 := by kernel_rfl

/-- (*baton/batonref03.reader).n -/
def F38 : IFunc := ⟨1, 40, [.tmp 2], false,
 .seq (.reg [0] [⟨(some 2), none, .mov (.c (.g (.int .i64 0)))⟩]) <|
 .seq (.drw [0, 3, 4, 5] 0 <|
  .take ⟨(some 7), none, .mov (.t 0)⟩ <|
  .take ⟨(some 8), none, .nilchk (.t 7)⟩ <|
  .take ⟨(some 9), none, .faddr 0 (.t 8)⟩ <|
  .take ⟨(some 10), none, .load false 1 (.t 9)⟩ <|
  .take ⟨(some 11), none, .mov (.t 0)⟩ <|
  .take ⟨(some 12), none, .nilchk (.t 11)⟩ <|
  .take ⟨(some 13), none, .faddr 1 (.t 12)⟩ <|
  .take ⟨(some 14), none, .load false 1 (.t 13)⟩ <|
  .one ⟨(some 15), none, .call (.c (.g (.fn 57))) [(.t 10), (.t 14)]⟩ <|
  .take ⟨(some 6), none, .mov (.t 15)⟩ <|
  .take ⟨(some 16), none, .ext 0 (.t 6)⟩ <|
  .take ⟨(some 17), none, .ext 1 (.t 6)⟩ <|
  .take ⟨(some 18), none, .ext 2 (.t 6)⟩ <|
  .free <|
  .take ⟨(some 3), none, .mov (.t 16)⟩ <|
  .take ⟨(some 4), none, .mov (.t 17)⟩ <|
  .take ⟨(some 5), none, .mov (.t 18)⟩ <|
  .leaf) <|
 .seq (.seq (.reg [0, 3, 4, 30] [⟨(some 19), none, .mov (.t 0)⟩,
     ⟨(some 20), none, .nilchk (.t 19)⟩,
     ⟨(some 21), none, .faddr 2 (.t 20)⟩,
     ⟨(some 22), none, .load false 1 (.t 21)⟩,
     ⟨(some 23), none, .mov (.t 22)⟩,
     ⟨(some 24), (some (23, false)), .mov (.t 5)⟩,
     ⟨(some 25), (some (23, false)), .bin .neq (.t 24) (.c (.g (.int .i64 0)))⟩,
     ⟨(some 26), none, .pick (.t 23) (.c (.g (.bool true))) (.t 25)⟩,
     ⟨(some 27), none, .mov (.t 26)⟩,
     ⟨(some 28), (some (27, false)), .mov (.t 3)⟩,
     ⟨(some 29), (some (27, false)), .bin .gtr (.t 28) (.c (.g (.int .u64 1099511627775)))⟩,
     ⟨(some 30), none, .pick (.t 27) (.c (.g (.bool true))) (.t 29)⟩]) <|
  .cond [0, 3, 4] (.t 30)
   (.seq (.reg [] [⟨(some 31), none, .mov (.t 0)⟩,
       ⟨(some 32), none, .nilchk (.t 31)⟩,
       ⟨(some 33), none, .faddr 2 (.t 32)⟩,
       ⟨none, none, .store 1 (.t 33) (.c (.g (.bool true)))⟩]) <|
    .seq (.reg [2] [⟨(some 2), none, .mov (.c (.g (.int .i64 0)))⟩]) <|
    .ret)
   (.skip)) <|
 .seq (.reg [3] [⟨(some 34), none, .mov (.t 0)⟩,
    ⟨(some 35), none, .mov (.t 4)⟩,
    ⟨(some 36), none, .nilchk (.t 34)⟩,
    ⟨(some 37), none, .faddr 1 (.t 36)⟩,
    ⟨none, none, .store 1 (.t 37) (.t 35)⟩]) <|
 .seq (.reg [2] [⟨(some 38), none, .mov (.t 3)⟩,
    ⟨(some 39), none, .conv .i64 (.t 38)⟩,
    ⟨(some 2), none, .mov (.t 39)⟩]) <|
 .ret⟩
def h38 : List (List Nat) := [[0], [0, 3, 4, 5], [], [0, 3, 4, 30], [0, 3, 4], [], [2], [3], [2]]
theorem c38 : cFunc Tryz.prog 38 false h38 = some F38 := by kernel_rfl

/-- (*baton/batonref03.reader).b -/
def F39 : IFunc := ⟨1, 13, [.tmp 2], false,
 .seq (.reg [0] [⟨(some 2), none, .mov (.c (.g (.bool false)))⟩]) <|
 .seq (.reg [0, 3] [⟨(some 4), none, .mov (.t 0)⟩,
    ⟨(some 5), none, .call (.c (.g (.fn 38))) [(.t 4)]⟩,
    ⟨(some 3), none, .mov (.t 5)⟩]) <|
 .seq (.seq (.reg [0, 3, 7] [⟨(some 6), none, .mov (.t 3)⟩,
     ⟨(some 7), none, .bin .gtr (.t 6) (.c (.g (.int .i64 1)))⟩]) <|
  .cond [3] (.t 7)
   (.reg [3] [⟨(some 8), none, .mov (.t 0)⟩,
      ⟨(some 9), none, .nilchk (.t 8)⟩,
      ⟨(some 10), none, .faddr 2 (.t 9)⟩,
      ⟨none, none, .store 1 (.t 10) (.c (.g (.bool true)))⟩])
   (.skip)) <|
 .seq (.reg [2] [⟨(some 11), none, .mov (.t 3)⟩,
    ⟨(some 12), none, .bin .eql (.t 11) (.c (.g (.int .i64 1)))⟩,
    ⟨(some 2), none, .mov (.t 12)⟩]) <|
 .ret⟩
def h39 : List (List Nat) := [[0], [0, 3], [0, 3, 7], [3], [3], [2]]
theorem c39 : cFunc Tryz.prog 39 false h39 = some F39 := by kernel_rfl

/-- (*baton/batonref03.reader).t -/
def F40 : IFunc := ⟨1, 51, [.tmp 2], false,
 .seq (.reg [0] [⟨(some 2), none, .mov (.c (.g (.str [])))⟩]) <|
 .seq (.reg [0, 3] [⟨(some 4), none, .mov (.t 0)⟩,
    ⟨(some 5), none, .call (.c (.g (.fn 38))) [(.t 4)]⟩,
    ⟨(some 3), none, .mov (.t 5)⟩]) <|
 .seq (.seq (.drw [0, 3, 23] 0 <|
   .take ⟨(some 6), none, .mov (.t 0)⟩ <|
   .take ⟨(some 7), none, .nilchk (.t 6)⟩ <|
   .take ⟨(some 8), none, .faddr 2 (.t 7)⟩ <|
   .take ⟨(some 9), none, .load false 1 (.t 8)⟩ <|
   .take ⟨(some 10), none, .mov (.t 9)⟩ <|
   .take ⟨(some 11), (some (10, false)), .mov (.t 3)⟩ <|
   .take ⟨(some 12), (some (10, false)), .mov (.t 0)⟩ <|
   .take ⟨(some 13), (some (10, false)), .nilchk (.t 12)⟩ <|
   .take ⟨(some 14), (some (10, false)), .faddr 0 (.t 13)⟩ <|
   .take ⟨(some 15), (some (10, false)), .load false 1 (.t 14)⟩ <|
   .take ⟨(some 16), (some (10, false)), .lenS (.t 15)⟩ <|
   .take ⟨(some 17), (some (10, false)), .mov (.t 0)⟩ <|
   .take ⟨(some 18), (some (10, false)), .nilchk (.t 17)⟩ <|
   .take ⟨(some 19), (some (10, false)), .faddr 1 (.t 18)⟩ <|
   .take ⟨(some 20), (some (10, false)), .load false 1 (.t 19)⟩ <|
   .take ⟨(some 21), (some (10, false)), .bin .sub (.t 16) (.t 20)⟩ <|
   .take ⟨(some 22), (some (10, false)), .bin .gtr (.t 11) (.t 21)⟩ <|
   .take ⟨(some 23), none, .pick (.t 10) (.c (.g (.bool true))) (.t 22)⟩ <|
   .leaf) <|
  .cond [0, 3] (.t 23)
   (.seq (.reg [] [⟨(some 24), none, .mov (.t 0)⟩,
       ⟨(some 25), none, .nilchk (.t 24)⟩,
       ⟨(some 26), none, .faddr 2 (.t 25)⟩,
       ⟨none, none, .store 1 (.t 26) (.c (.g (.bool true)))⟩]) <|
    .seq (.reg [2] [⟨(some 2), none, .mov (.c (.g (.str [])))⟩]) <|
    .ret)
   (.skip)) <|
 .seq (.reg [0, 3] [⟨(some 27), none, .mov (.t 0)⟩,
    ⟨(some 28), none, .mov (.t 0)⟩,
    ⟨(some 29), none, .nilchk (.t 28)⟩,
    ⟨(some 30), none, .faddr 1 (.t 29)⟩,
    ⟨(some 31), none, .load false 1 (.t 30)⟩,
    ⟨(some 32), none, .mov (.t 3)⟩,
    ⟨(some 33), none, .bin .add (.t 31) (.t 32)⟩,
    ⟨(some 34), none, .nilchk (.t 27)⟩,
    ⟨(some 35), none, .faddr 1 (.t 34)⟩,
    ⟨none, none, .store 1 (.t 35) (.t 33)⟩]) <|
 .seq (.drw [2] 0 <|
  .take ⟨(some 36), none, .mov (.t 0)⟩ <|
  .take ⟨(some 37), none, .nilchk (.t 36)⟩ <|
  .take ⟨(some 38), none, .faddr 0 (.t 37)⟩ <|
  .take ⟨(some 39), none, .load false 1 (.t 38)⟩ <|
  .take ⟨(some 40), none, .mov (.t 0)⟩ <|
  .take ⟨(some 41), none, .nilchk (.t 40)⟩ <|
  .take ⟨(some 42), none, .faddr 1 (.t 41)⟩ <|
  .take ⟨(some 43), none, .load false 1 (.t 42)⟩ <|
  .take ⟨(some 44), none, .mov (.t 3)⟩ <|
  .take ⟨(some 45), none, .bin .sub (.t 43) (.t 44)⟩ <|
  .take ⟨(some 46), none, .mov (.t 0)⟩ <|
  .take ⟨(some 47), none, .nilchk (.t 46)⟩ <|
  .take ⟨(some 48), none, .faddr 1 (.t 47)⟩ <|
  .take ⟨(some 49), none, .load false 1 (.t 48)⟩ <|
  .take ⟨(some 50), none, .slcS (.t 39) (some (.t 45)) (some (.t 49))⟩ <|
  .free <|
  .take ⟨(some 2), none, .mov (.t 50)⟩ <|
  .leaf) <|
 .ret⟩
def h40 : List (List Nat) := [[0], [0, 3], [0, 3, 23], [], [0, 3], [], [2], [0, 3], [2], []]
theorem c40 : cFunc Tryz.prog 40 false h40 = some F40 := by kernel_rfl

/-- (*baton/batonref03.reader).muts -/
def L41_0 : IC :=
 .seq (.seq (.reg [0, 3, 4, 5, 22] [⟨(some 9), none, .mov (.t 5)⟩,
     ⟨(some 10), none, .mov (.t 4)⟩,
     ⟨(some 11), none, .bin .lss (.t 9) (.t 10)⟩,
     ⟨(some 12), none, .mov (.t 11)⟩,
     ⟨(some 13), (some (12, true)), .mov (.t 0)⟩,
     ⟨(some 14), (some (12, true)), .nilchk (.t 13)⟩,
     ⟨(some 15), (some (12, true)), .faddr 2 (.t 14)⟩,
     ⟨(some 16), (some (12, true)), .load false 1 (.t 15)⟩,
     ⟨(some 17), (some (12, true)), .un .not (.t 16)⟩,
     ⟨(some 18), none, .pick (.t 12) (.t 17) (.c (.g (.bool false)))⟩,
     ⟨(some 19), none, .mov (.t 18)⟩,
     ⟨(some 20), (some (19, true)), .mov (.t 5)⟩,
     ⟨(some 21), (some (19, true)), .bin .leq (.t 20) (.c (.g (.int .i64 4)))⟩,
     ⟨(some 22), none, .pick (.t 19) (.t 21) (.c (.g (.bool false)))⟩]) <|
  .cond [0, 3, 4, 5] (.t 22)
   (.skip)
   (.exit 0)) <|
 .seq (.block [0, 3, 4, 5] 1 <|
  .seq (.reg [0, 3, 4, 5, 6] [⟨(some 25), none, .mov (.t 0)⟩,
     ⟨(some 26), none, .call (.c (.g (.fn 39))) [(.t 25)]⟩,
     ⟨(some 27), none, .build [.g (.bool false), .g (.str []), .g (.str []), .g (.int .i64 0)] [(0, 1, (.t 26))]⟩,
     ⟨(some 6), none, .alloc [.z (.bool false), .z (.str []), .z (.str []), .z (.int .i64 0)]⟩,
     ⟨none, none, .store 4 (.t 6) (.t 27)⟩]) <|
  .seq (.reg [0, 3, 4, 5, 6] [⟨(some 28), none, .mov (.t 0)⟩,
     ⟨(some 29), none, .call (.c (.g (.fn 40))) [(.t 28)]⟩,
     ⟨(some 30), none, .faddr 1 (.t 6)⟩,
     ⟨none, none, .store 1 (.t 30) (.t 29)⟩]) <|
  .seq (.reg [0, 3, 4, 5, 6] [⟨(some 31), none, .mov (.t 0)⟩,
     ⟨(some 32), none, .call (.c (.g (.fn 40))) [(.t 31)]⟩,
     ⟨(some 33), none, .faddr 2 (.t 6)⟩,
     ⟨none, none, .store 1 (.t 33) (.t 32)⟩]) <|
  .seq (.reg [0, 3, 4, 5, 6] [⟨(some 34), none, .mov (.t 0)⟩,
     ⟨(some 35), none, .call (.c (.g (.fn 38))) [(.t 34)]⟩,
     ⟨(some 36), none, .faddr 3 (.t 6)⟩,
     ⟨none, none, .store 1 (.t 36) (.t 35)⟩]) <|
  .reg [0, 3, 4, 5] [⟨(some 37), none, .mov (.t 3)⟩,
    ⟨(some 38), none, .load true 4 (.t 6)⟩,
    ⟨(some 39), none, .bslice 4 1 [.bool false, .str [], .str [], .int .i64 0] [(0, 4, (.t 38))]⟩,
    ⟨(some 40), none, .app 4 48 (.t 37) (.t 39)⟩,
    ⟨(some 3), none, .mov (.t 40)⟩]) <|
 .reg [0, 3, 4, 5] [⟨(some 23), none, .mov (.t 5)⟩,
   ⟨(some 24), none, .bin .add (.t 23) (.c (.g (.int .i64 1)))⟩,
   ⟨(some 5), none, .mov (.t 24)⟩]
def F41 : IFunc := ⟨1, 42, [.tmp 2], false,
 .seq (.reg [0] [⟨(some 2), none, .nres 4⟩]) <|
 .seq (.reg [0, 3] [⟨(some 3), none, .nres 4⟩]) <|
 .seq (.reg [0, 3, 4] [⟨(some 7), none, .mov (.t 0)⟩,
    ⟨(some 8), none, .call (.c (.g (.fn 38))) [(.t 7)]⟩,
    ⟨(some 4), none, .mov (.t 8)⟩]) <|
 .seq (.seq (.reg [0, 3, 4, 5] [⟨(some 5), none, .mov (.c (.g (.int .i64 0)))⟩]) <|
  .block [3] 0 <|
  .loop [0, 3, 4, 5] [] L41_0) <|
 .seq (.reg [2] [⟨(some 41), none, .mov (.t 3)⟩,
    ⟨(some 2), none, .mov (.t 41)⟩]) <|
 .ret⟩
def h41 : List (List Nat) := [[0], [0, 3], [0, 3, 4], [0, 3, 4, 5], [3], [0, 3, 4, 5], [0, 3, 4, 5, 22], [0, 3, 4, 5], [0, 3, 4, 5], [0, 3, 4, 5, 6], [0, 3, 4, 5, 6], [0, 3, 4, 5, 6], [0, 3, 4, 5, 6], [0, 3, 4, 5], [0, 3, 4, 5], [2]]
theorem c41 : cFunc Tryz.prog 41 false h41 = some F41 := by kernel_rfl

/-- baton/batonref03.Ask -/
def L42_0 : IC :=
 .seq (.seq (.reg [1, 4, 5, 61] [⟨(some 56), none, .mov (.t 5)⟩,
     ⟨(some 57), none, .faddr 10 (.t 1)⟩,
     ⟨(some 58), none, .faddr 0 (.t 57)⟩,
     ⟨(some 59), none, .load false 1 (.t 58)⟩,
     ⟨(some 60), none, .len (.t 59)⟩,
     ⟨(some 61), none, .bin .lss (.t 56) (.t 60)⟩]) <|
  .cond [1, 4, 5] (.t 61)
   (.skip)
   (.exit 0)) <|
 .seq (.block [1, 4, 5] 1 <|
  .seq (.reg [1, 4, 5, 6] [⟨(some 64), none, .faddr 10 (.t 1)⟩,
     ⟨(some 65), none, .faddr 0 (.t 64)⟩,
     ⟨(some 66), none, .load false 1 (.t 65)⟩,
     ⟨(some 67), none, .mov (.t 5)⟩,
     ⟨(some 68), none, .iaddr 5 (.t 66) (.t 67)⟩,
     ⟨(some 69), none, .load true 5 (.t 68)⟩,
     ⟨(some 6), none, .alloc [.z (.str []), .z (.int .i64 0), .z (.int .i64 0), .z (.int .i64 0), .z (.str [])]⟩,
     ⟨none, none, .store 5 (.t 6) (.t 69)⟩]) <|
  .drw [1, 4, 5] 0 <|
  .take ⟨(some 70), none, .mov (.t 4)⟩ <|
  .take ⟨(some 71), none, .faddr 0 (.t 6)⟩ <|
  .take ⟨(some 72), none, .load false 1 (.t 71)⟩ <|
  .take ⟨(some 75), none, .faddr 1 (.t 6)⟩ <|
  .take ⟨(some 76), none, .load false 1 (.t 75)⟩ <|
  .take ⟨(some 79), none, .faddr 2 (.t 6)⟩ <|
  .take ⟨(some 80), none, .load false 1 (.t 79)⟩ <|
  .take ⟨(some 83), none, .faddr 3 (.t 6)⟩ <|
  .take ⟨(some 84), none, .load false 1 (.t 83)⟩ <|
  .take ⟨(some 87), none, .faddr 4 (.t 6)⟩ <|
  .take ⟨(some 88), none, .load false 1 (.t 87)⟩ <|
  .one ⟨(some 73), none, .call (.c (.g (.fn 61))) [(.t 72)]⟩ <|
  .take ⟨(some 74), none, .bin .add (.t 70) (.t 73)⟩ <|
  .one ⟨(some 77), none, .call (.c (.g (.fn 59))) [(.t 76)]⟩ <|
  .take ⟨(some 78), none, .bin .add (.t 74) (.t 77)⟩ <|
  .one ⟨(some 81), none, .call (.c (.g (.fn 59))) [(.t 80)]⟩ <|
  .take ⟨(some 82), none, .bin .add (.t 78) (.t 81)⟩ <|
  .one ⟨(some 85), none, .call (.c (.g (.fn 59))) [(.t 84)]⟩ <|
  .take ⟨(some 86), none, .bin .add (.t 82) (.t 85)⟩ <|
  .one ⟨(some 89), none, .call (.c (.g (.fn 61))) [(.t 88)]⟩ <|
  .take ⟨(some 90), none, .bin .add (.t 86) (.t 89)⟩ <|
  .free <|
  .take ⟨(some 4), none, .mov (.t 90)⟩ <|
  .leaf) <|
 .reg [1, 4, 5] [⟨(some 62), none, .mov (.t 5)⟩,
   ⟨(some 63), none, .bin .add (.t 62) (.c (.g (.int .i64 1)))⟩,
   ⟨(some 5), none, .mov (.t 63)⟩]
def F42 : IFunc := ⟨1, 102, [.tmp 2, .tmp 3], false,
 .seq (.reg [1] [⟨(some 1), none, .box (.t 0)⟩,
    ⟨(some 2), none, .mov (.c (.g (.str [])))⟩,
    ⟨(some 3), none, .mov (.c (.g (.bool false)))⟩]) <|
 .seq (.seq (.reg [1, 9] [⟨(some 7), none, .load true 13 (.t 1)⟩,
     ⟨(some 8), none, .call (.c (.g (.fn 58))) [(.t 7)]⟩,
     ⟨(some 9), none, .un .not (.t 8)⟩]) <|
  .cond [1] (.t 9)
   (.seq (.reg [2, 3] [⟨(some 2), none, .mov (.c (.g (.str [])))⟩,
       ⟨(some 3), none, .mov (.c (.g (.bool false)))⟩]) <|
    .ret)
   (.skip)) <|
 .seq (.drw [1, 4] 0 <|
  .take ⟨(some 10), none, .faddr 0 (.t 1)⟩ <|
  .take ⟨(some 11), none, .load false 1 (.t 10)⟩ <|
  .take ⟨(some 14), none, .faddr 1 (.t 1)⟩ <|
  .take ⟨(some 15), none, .load false 1 (.t 14)⟩ <|
  .take ⟨(some 18), none, .faddr 2 (.t 1)⟩ <|
  .take ⟨(some 19), none, .load false 1 (.t 18)⟩ <|
  .take ⟨(some 22), none, .faddr 3 (.t 1)⟩ <|
  .take ⟨(some 23), none, .load false 1 (.t 22)⟩ <|
  .take ⟨(some 26), none, .faddr 4 (.t 1)⟩ <|
  .take ⟨(some 27), none, .load false 1 (.t 26)⟩ <|
  .take ⟨(some 30), none, .faddr 5 (.t 1)⟩ <|
  .take ⟨(some 31), none, .load false 1 (.t 30)⟩ <|
  .take ⟨(some 34), none, .faddr 6 (.t 1)⟩ <|
  .take ⟨(some 35), none, .load false 1 (.t 34)⟩ <|
  .take ⟨(some 38), none, .faddr 7 (.t 1)⟩ <|
  .take ⟨(some 39), none, .load false 1 (.t 38)⟩ <|
  .take ⟨(some 42), none, .faddr 8 (.t 1)⟩ <|
  .take ⟨(some 43), none, .load false 1 (.t 42)⟩ <|
  .take ⟨(some 46), none, .faddr 9 (.t 1)⟩ <|
  .take ⟨(some 47), none, .load false 1 (.t 46)⟩ <|
  .take ⟨(some 50), none, .faddr 10 (.t 1)⟩ <|
  .take ⟨(some 51), none, .faddr 0 (.t 50)⟩ <|
  .take ⟨(some 52), none, .load false 1 (.t 51)⟩ <|
  .take ⟨(some 53), none, .len (.t 52)⟩ <|
  .one ⟨(some 12), none, .call (.c (.g (.fn 59))) [(.t 11)]⟩ <|
  .take ⟨(some 13), none, .bin .add (.c (.g (.str [1]))) (.t 12)⟩ <|
  .one ⟨(some 16), none, .call (.c (.g (.fn 59))) [(.t 15)]⟩ <|
  .take ⟨(some 17), none, .bin .add (.t 13) (.t 16)⟩ <|
  .one ⟨(some 20), none, .call (.c (.g (.fn 59))) [(.t 19)]⟩ <|
  .take ⟨(some 21), none, .bin .add (.t 17) (.t 20)⟩ <|
  .one ⟨(some 24), none, .call (.c (.g (.fn 60))) [(.t 23)]⟩ <|
  .take ⟨(some 25), none, .bin .add (.t 21) (.t 24)⟩ <|
  .one ⟨(some 28), none, .call (.c (.g (.fn 61))) [(.t 27)]⟩ <|
  .take ⟨(some 29), none, .bin .add (.t 25) (.t 28)⟩ <|
  .one ⟨(some 32), none, .call (.c (.g (.fn 61))) [(.t 31)]⟩ <|
  .take ⟨(some 33), none, .bin .add (.t 29) (.t 32)⟩ <|
  .one ⟨(some 36), none, .call (.c (.g (.fn 59))) [(.t 35)]⟩ <|
  .take ⟨(some 37), none, .bin .add (.t 33) (.t 36)⟩ <|
  .one ⟨(some 40), none, .call (.c (.g (.fn 59))) [(.t 39)]⟩ <|
  .take ⟨(some 41), none, .bin .add (.t 37) (.t 40)⟩ <|
  .one ⟨(some 44), none, .call (.c (.g (.fn 59))) [(.t 43)]⟩ <|
  .take ⟨(some 45), none, .bin .add (.t 41) (.t 44)⟩ <|
  .one ⟨(some 48), none, .call (.c (.g (.fn 59))) [(.t 47)]⟩ <|
  .take ⟨(some 49), none, .bin .add (.t 45) (.t 48)⟩ <|
  .one ⟨(some 54), none, .call (.c (.g (.fn 59))) [(.t 53)]⟩ <|
  .take ⟨(some 55), none, .bin .add (.t 49) (.t 54)⟩ <|
  .free <|
  .take ⟨(some 4), none, .mov (.t 55)⟩ <|
  .leaf) <|
 .seq (.seq (.reg [1, 4, 5] [⟨(some 5), none, .mov (.c (.g (.int .i64 0)))⟩]) <|
  .block [1, 4] 0 <|
  .loop [1, 4, 5] [] L42_0) <|
 .seq (.drw [2, 3] 0 <|
  .take ⟨(some 91), none, .mov (.t 4)⟩ <|
  .take ⟨(some 92), none, .faddr 10 (.t 1)⟩ <|
  .take ⟨(some 93), none, .faddr 1 (.t 92)⟩ <|
  .take ⟨(some 94), none, .load false 1 (.t 93)⟩ <|
  .take ⟨(some 97), none, .faddr 10 (.t 1)⟩ <|
  .take ⟨(some 98), none, .faddr 2 (.t 97)⟩ <|
  .take ⟨(some 99), none, .load false 1 (.t 98)⟩ <|
  .one ⟨(some 95), none, .call (.c (.g (.fn 62))) [(.t 94)]⟩ <|
  .take ⟨(some 96), none, .bin .add (.t 91) (.t 95)⟩ <|
  .one ⟨(some 100), none, .call (.c (.g (.fn 62))) [(.t 99)]⟩ <|
  .take ⟨(some 101), none, .bin .add (.t 96) (.t 100)⟩ <|
  .free <|
  .take ⟨(some 2), none, .mov (.t 101)⟩ <|
  .take ⟨(some 3), none, .mov (.c (.g (.bool true)))⟩ <|
  .leaf) <|
 .ret⟩
def h42 : List (List Nat) := [[1], [1, 9], [1], [2, 3], [1, 4], [], [1, 4, 5], [1, 4], [1, 4, 5], [1, 4, 5, 61], [1, 4, 5], [1, 4, 5], [1, 4, 5, 6], [1, 4, 5], [], [1, 4, 5], [2, 3], []]
theorem c42 : cFunc Tryz.prog 42 false h42 = some F42 := by kernel_rfl

/-- baton/batonref20.one -/
def F43 : IFunc := ⟨3, 26, [.tmp 6], false,
 .seq (.reg [0, 1, 2] [⟨(some 6), none, .mov (.c (.g (.bool false)))⟩]) <|
 .seq (.reg [6] [⟨(some 7), none, .mov (.t 1)⟩,
    ⟨(some 8), none, .bin .geq (.t 7) (.c (.g (.int .i64 1)))⟩,
    ⟨(some 9), none, .mov (.t 8)⟩,
    ⟨(some 10), (some (9, true)), .mov (.t 1)⟩,
    ⟨(some 11), (some (9, true)), .bin .leq (.t 10) (.c (.g (.int .i64 1099511627775)))⟩,
    ⟨(some 12), none, .pick (.t 9) (.t 11) (.c (.g (.bool false)))⟩,
    ⟨(some 13), none, .mov (.t 12)⟩,
    ⟨(some 14), (some (13, true)), .mov (.t 0)⟩,
    ⟨(some 15), (some (13, true)), .bin .geq (.t 14) (.c (.g (.int .i64 0)))⟩,
    ⟨(some 16), none, .pick (.t 13) (.t 15) (.c (.g (.bool false)))⟩,
    ⟨(some 17), none, .mov (.t 16)⟩,
    ⟨(some 18), (some (17, true)), .mov (.t 0)⟩,
    ⟨(some 19), (some (17, true)), .bin .leq (.t 18) (.c (.g (.int .i64 1099511627775)))⟩,
    ⟨(some 20), none, .pick (.t 17) (.t 19) (.c (.g (.bool false)))⟩,
    ⟨(some 21), none, .mov (.t 20)⟩,
    ⟨(some 22), (some (21, true)), .mov (.t 2)⟩,
    ⟨(some 23), (some (21, true)), .lenS (.t 22)⟩,
    ⟨(some 24), (some (21, true)), .bin .leq (.t 23) (.c (.g (.int .i64 20)))⟩,
    ⟨(some 25), none, .pick (.t 21) (.t 24) (.c (.g (.bool false)))⟩,
    ⟨(some 6), none, .mov (.t 25)⟩]) <|
 .ret⟩
def h43 : List (List Nat) := [[0, 1, 2], [6]]
theorem c43 : cFunc Tryz.prog 43 false h43 = some F43 := by kernel_rfl

/-- slices.Compact[[]int,int] -/
def L45_0 : IC :=
 .seq (.seq (.reg [0, 3, 4, 5, 32] [⟨(some 29), none, .mov (.t 5)⟩,
     ⟨(some 30), none, .mov (.t 4)⟩,
     ⟨(some 31), none, .len (.t 30)⟩,
     ⟨(some 32), none, .bin .lss (.t 29) (.t 31)⟩]) <|
  .cond [0, 3, 4, 5] (.t 32)
   (.skip)
   (.exit 2)) <|
 .seq (.block [0, 3, 4, 5] 3 <|
  .seq (.drw [0, 3, 4, 5, 44] 0 <|
   .take ⟨(some 35), none, .mov (.t 4)⟩ <|
   .take ⟨(some 36), none, .mov (.t 5)⟩ <|
   .take ⟨(some 37), none, .iaddr 1 (.t 35) (.t 36)⟩ <|
   .take ⟨(some 38), none, .load false 1 (.t 37)⟩ <|
   .take ⟨(some 39), none, .mov (.t 4)⟩ <|
   .take ⟨(some 40), none, .mov (.t 5)⟩ <|
   .take ⟨(some 41), none, .bin .sub (.t 40) (.c (.g (.int .i64 1)))⟩ <|
   .take ⟨(some 42), none, .iaddr 1 (.t 39) (.t 41)⟩ <|
   .take ⟨(some 43), none, .load false 1 (.t 42)⟩ <|
   .free <|
   .take ⟨(some 44), none, .bin .neq (.t 38) (.t 43)⟩ <|
   .leaf) <|
  .cond [0, 3, 4, 5] (.t 44)
   (.seq (.reg [0, 3, 4, 5] [⟨(some 45), none, .mov (.t 0)⟩,
       ⟨(some 46), none, .mov (.t 3)⟩,
       ⟨(some 47), none, .mov (.t 4)⟩,
       ⟨(some 48), none, .mov (.t 5)⟩,
       ⟨(some 49), none, .iaddr 1 (.t 47) (.t 48)⟩,
       ⟨(some 50), none, .load false 1 (.t 49)⟩,
       ⟨(some 51), none, .iaddr 1 (.t 45) (.t 46)⟩,
       ⟨none, none, .store 1 (.t 51) (.t 50)⟩]) <|
    .reg [0, 3, 4, 5] [⟨(some 52), none, .mov (.t 3)⟩,
      ⟨(some 53), none, .bin .add (.t 52) (.c (.g (.int .i64 1)))⟩,
      ⟨(some 3), none, .mov (.t 53)⟩])
   (.skip)) <|
 .reg [0, 3, 4, 5] [⟨(some 33), none, .mov (.t 5)⟩,
   ⟨(some 34), none, .bin .add (.t 33) (.c (.g (.int .i64 1)))⟩,
   ⟨(some 5), none, .mov (.t 34)⟩]
def L45_1 : IC :=
 .seq (.seq (.reg [0, 3, 13] [⟨(some 10), none, .mov (.t 3)⟩,
     ⟨(some 11), none, .mov (.t 0)⟩,
     ⟨(some 12), none, .len (.t 11)⟩,
     ⟨(some 13), none, .bin .lss (.t 10) (.t 12)⟩]) <|
  .cond [0, 3] (.t 13)
   (.skip)
   (.exit 0)) <|
 .seq (.block [0, 3] 1 <|
  .seq (.drw [0, 3, 25] 0 <|
   .take ⟨(some 16), none, .mov (.t 0)⟩ <|
   .take ⟨(some 17), none, .mov (.t 3)⟩ <|
   .take ⟨(some 18), none, .iaddr 1 (.t 16) (.t 17)⟩ <|
   .take ⟨(some 19), none, .load false 1 (.t 18)⟩ <|
   .take ⟨(some 20), none, .mov (.t 0)⟩ <|
   .take ⟨(some 21), none, .mov (.t 3)⟩ <|
   .take ⟨(some 22), none, .bin .sub (.t 21) (.c (.g (.int .i64 1)))⟩ <|
   .take ⟨(some 23), none, .iaddr 1 (.t 20) (.t 22)⟩ <|
   .take ⟨(some 24), none, .load false 1 (.t 23)⟩ <|
   .free <|
   .take ⟨(some 25), none, .bin .eql (.t 19) (.t 24)⟩ <|
   .leaf) <|
  .cond [0, 3] (.t 25)
   (.seq (.reg [0, 3, 4] [⟨(some 26), none, .mov (.t 0)⟩,
       ⟨(some 27), none, .mov (.t 3)⟩,
       ⟨(some 28), none, .slc 1 (.t 26) (some (.t 27)) none⟩,
       ⟨(some 4), none, .mov (.t 28)⟩]) <|
    .seq (.seq (.reg [0, 3, 4, 5] [⟨(some 5), none, .mov (.c (.g (.int .i64 1)))⟩]) <|
     .block [0, 3] 2 <|
     .loop [0, 3, 4, 5] [] L45_0) <|
    .seq (.reg [0, 3] [⟨(some 54), none, .mov (.t 0)⟩,
       ⟨(some 55), none, .mov (.t 3)⟩,
       ⟨(some 56), none, .slc 1 (.t 54) (some (.t 55)) none⟩,
       ⟨none, none, .clear [.int .i64 0] (.t 56)⟩]) <|
    .seq (.reg [2] [⟨(some 57), none, .mov (.t 0)⟩,
       ⟨(some 58), none, .mov (.t 3)⟩,
       ⟨(some 59), none, .slc 1 (.t 57) none (some (.t 58))⟩,
       ⟨(some 2), none, .mov (.t 59)⟩]) <|
    .ret)
   (.skip)) <|
 .reg [0, 3] [⟨(some 14), none, .mov (.t 3)⟩,
   ⟨(some 15), none, .bin .add (.t 14) (.c (.g (.int .i64 1)))⟩,
   ⟨(some 3), none, .mov (.t 15)⟩]
def F45 : IFunc := ⟨1, 61, [.tmp 2], false,
 .seq (.reg [0] [⟨(some 2), none, .nres 1⟩]) <|
 .seq (.seq (.reg [0, 8] [⟨(some 6), none, .mov (.t 0)⟩,
     ⟨(some 7), none, .len (.t 6)⟩,
     ⟨(some 8), none, .bin .lss (.t 7) (.c (.g (.int .i64 2)))⟩]) <|
  .cond [0] (.t 8)
   (.seq (.reg [2] [⟨(some 9), none, .mov (.t 0)⟩,
       ⟨(some 2), none, .mov (.t 9)⟩]) <|
    .ret)
   (.skip)) <|
 .seq (.seq (.reg [0, 3] [⟨(some 3), none, .mov (.c (.g (.int .i64 1)))⟩]) <|
  .block [0] 0 <|
  .loop [0, 3] [] L45_1) <|
 .seq (.reg [2] [⟨(some 60), none, .mov (.t 0)⟩,
    ⟨(some 2), none, .mov (.t 60)⟩]) <|
 .ret⟩
def h45 : List (List Nat) := [[0], [0, 8], [0], [2], [0, 3], [0], [0, 3], [0, 3, 13], [0, 3], [0, 3], [0, 3, 25], [], [0, 3], [0, 3, 4], [0, 3, 4, 5], [0, 3], [0, 3, 4, 5], [0, 3, 4, 5, 32], [0, 3, 4, 5], [0, 3, 4, 5], [0, 3, 4, 5, 44], [], [0, 3, 4, 5], [0, 3, 4, 5], [0, 3, 4, 5], [0, 3, 4, 5], [0, 3], [2], [0, 3], [2]]
theorem c45 : cFunc Tryz.prog 45 false h45 = some F45 := by kernel_rfl

/-- slices.Concat[[]baton/api.Accept,baton/api.Accept] -/
def L47_0 : IC :=
 .seq (.reg [0, 3, 9, 10, 11, 12] [⟨(some 12), none, .bin .lss (.t 11) (.t 10)⟩]) <|
 .seq (.cond [0, 3, 9, 10, 11] (.t 12)
   (.skip)
   (.exit 0)) <|
 .seq (.block [0, 3, 9, 10, 11] 1 <|
  .seq (.reg [0, 3, 5, 9, 10, 11] [⟨(some 13), none, .iaddr 1 (.t 9) (.t 11)⟩,
     ⟨(some 14), none, .load false 1 (.t 13)⟩,
     ⟨(some 5), none, .mov (.t 14)⟩]) <|
  .seq (.reg [0, 3, 9, 10, 11] [⟨(some 15), none, .mov (.t 3)⟩,
     ⟨(some 16), none, .mov (.t 5)⟩,
     ⟨(some 17), none, .len (.t 16)⟩,
     ⟨(some 18), none, .bin .add (.t 15) (.t 17)⟩,
     ⟨(some 3), none, .mov (.t 18)⟩]) <|
  .seq (.reg [0, 3, 9, 10, 11, 20] [⟨(some 19), none, .mov (.t 3)⟩,
     ⟨(some 20), none, .bin .lss (.t 19) (.c (.g (.int .i64 0)))⟩]) <|
  .cond [0, 3, 9, 10, 11] (.t 20)
   (.reg [0, 3, 9, 10, 11] [⟨(some 21), none, .mkif 9 (.c (.g (.str [108, 101, 110, 32, 111, 117, 116, 32, 111, 102, 32, 114, 97, 110, 103, 101])))⟩,
      ⟨none, none, .row 0 []⟩])
   (.skip)) <|
 .reg [0, 3, 9, 10, 11] [⟨(some 22), none, .bin .add (.t 11) (.c (.g (.int .i64 1)))⟩,
   ⟨(some 11), none, .mov (.t 22)⟩]
def L47_1 : IC :=
 .seq (.reg [6, 25, 26, 27, 28] [⟨(some 28), none, .bin .lss (.t 27) (.t 26)⟩]) <|
 .seq (.cond [6, 25, 26, 27] (.t 28)
   (.skip)
   (.exit 2)) <|
 .seq (.block [6, 25, 26, 27] 3 <|
  .seq (.reg [6, 8, 25, 26, 27] [⟨(some 29), none, .iaddr 1 (.t 25) (.t 27)⟩,
     ⟨(some 30), none, .load false 1 (.t 29)⟩,
     ⟨(some 8), none, .mov (.t 30)⟩]) <|
  .reg [6, 25, 26, 27] [⟨(some 31), none, .mov (.t 6)⟩,
    ⟨(some 32), none, .mov (.t 8)⟩,
    ⟨(some 33), none, .app 3 32 (.t 31) (.t 32)⟩,
    ⟨(some 6), none, .mov (.t 33)⟩]) <|
 .reg [6, 25, 26, 27] [⟨(some 34), none, .bin .add (.t 27) (.c (.g (.int .i64 1)))⟩,
   ⟨(some 27), none, .mov (.t 34)⟩]
def F47 : IFunc := ⟨1, 36, [.tmp 2], false,
 .seq (.reg [0] [⟨(some 2), none, .nres 3⟩]) <|
 .seq (.reg [0, 3] [⟨(some 3), none, .mov (.c (.g (.int .i64 0)))⟩]) <|
 .seq (.seq (.reg [0, 3, 9, 10, 11] [⟨(some 9), none, .mov (.t 0)⟩,
     ⟨(some 10), none, .len (.t 9)⟩,
     ⟨(some 11), none, .mov (.c (.g (.int .i64 0)))⟩]) <|
  .block [0, 3] 0 <|
  .loop [0, 3, 9, 10, 11] [] L47_0) <|
 .seq (.reg [0, 6] [⟨(some 23), none, .mov (.t 3)⟩,
    ⟨(some 24), none, .call (.c (.g (.fn 67))) [(.c (.g (.nsl))), (.t 23)]⟩,
    ⟨(some 6), none, .mov (.t 24)⟩]) <|
 .seq (.seq (.reg [6, 25, 26, 27] [⟨(some 25), none, .mov (.t 0)⟩,
     ⟨(some 26), none, .len (.t 25)⟩,
     ⟨(some 27), none, .mov (.c (.g (.int .i64 0)))⟩]) <|
  .block [6] 2 <|
  .loop [6, 25, 26, 27] [] L47_1) <|
 .seq (.reg [2] [⟨(some 35), none, .mov (.t 6)⟩,
    ⟨(some 2), none, .mov (.t 35)⟩]) <|
 .ret⟩
def h47 : List (List Nat) := [[0], [0, 3], [0, 3, 9, 10, 11], [0, 3], [0, 3, 9, 10, 11], [0, 3, 9, 10, 11, 12], [0, 3, 9, 10, 11], [0, 3, 9, 10, 11], [0, 3, 5, 9, 10, 11], [0, 3, 9, 10, 11], [0, 3, 9, 10, 11, 20], [0, 3, 9, 10, 11], [0, 3, 9, 10, 11], [0, 3, 9, 10, 11], [0, 6], [6, 25, 26, 27], [6], [6, 25, 26, 27], [6, 25, 26, 27, 28], [6, 25, 26, 27], [6, 25, 26, 27], [6, 8, 25, 26, 27], [6, 25, 26, 27], [6, 25, 26, 27], [2]]
theorem c47 : cFunc Tryz.prog 47 false h47 = some F47 := by kernel_rfl

/-- baton/wire.texts -/
def F48 : IFunc := ⟨2, 13, [.tmp 4], false,
 .seq (.reg [0, 1] [⟨(some 4), none, .mov (.c (.g (.bool false)))⟩]) <|
 .seq (.reg [4] [⟨(some 5), none, .mov (.t 0)⟩,
    ⟨(some 6), none, .lenS (.t 5)⟩,
    ⟨(some 7), none, .bin .leq (.t 6) (.c (.g (.int .i64 40)))⟩,
    ⟨(some 8), none, .mov (.t 7)⟩,
    ⟨(some 9), (some (8, true)), .mov (.t 1)⟩,
    ⟨(some 10), (some (8, true)), .lenS (.t 9)⟩,
    ⟨(some 11), (some (8, true)), .bin .leq (.t 10) (.c (.g (.int .i64 20)))⟩,
    ⟨(some 12), none, .pick (.t 8) (.t 11) (.c (.g (.bool false)))⟩,
    ⟨(some 4), none, .mov (.t 12)⟩]) <|
 .ret⟩
def h48 : List (List Nat) := [[0, 1], [4]]
theorem c48 : cFunc Tryz.prog 48 false h48 = some F48 := by kernel_rfl

/-- baton/wire.number -/
def F49 : IFunc := ⟨1, 6, [.tmp 2], false,
 .seq (.reg [0] [⟨(some 2), none, .mov (.c (.g (.bool false)))⟩]) <|
 .seq (.reg [2] [⟨(some 3), none, .mov (.t 0)⟩,
    ⟨(some 4), none, .call (.c (.g (.fn 68))) [(.t 3), (.c (.g (.fn 69)))]⟩,
    ⟨(some 5), none, .un .not (.t 4)⟩,
    ⟨(some 2), none, .mov (.t 5)⟩]) <|
 .ret⟩
def h49 : List (List Nat) := [[0], [2]]
theorem c49 : cFunc Tryz.prog 49 false h49 = some F49 := by kernel_rfl

/-- baton/wire.all[baton/api.Cmp] -/
def F50 : IFunc := ⟨3, 17, [.tmp 6], false,
 .seq (.reg [0, 1, 5] [⟨(some 5), none, .box (.t 2)⟩,
    ⟨(some 6), none, .mov (.c (.g (.bool false)))⟩]) <|
 .seq (.reg [6] [⟨(some 7), none, .mov (.t 0)⟩,
    ⟨(some 8), none, .len (.t 7)⟩,
    ⟨(some 9), none, .mov (.t 1)⟩,
    ⟨(some 10), none, .bin .leq (.t 8) (.t 9)⟩,
    ⟨(some 11), none, .mov (.t 10)⟩,
    ⟨(some 12), (some (11, true)), .mov (.t 0)⟩,
    ⟨(some 13), (some (11, true)), .mkfn 71 [(.t 5)]⟩,
    ⟨(some 14), (some (11, true)), .call (.c (.g (.fn 70))) [(.t 12), (.t 13)]⟩,
    ⟨(some 15), (some (11, true)), .un .not (.t 14)⟩,
    ⟨(some 16), none, .pick (.t 11) (.t 15) (.c (.g (.bool false)))⟩,
    ⟨(some 6), none, .mov (.t 16)⟩]) <|
 .ret⟩
def h50 : List (List Nat) := [[0, 1, 5], [6]]
theorem c50 : cFunc Tryz.prog 50 false h50 = some F50 := by kernel_rfl

/-- baton/wire.mayCmp -/
def F51 : IFunc := ⟨1, 34, [.tmp 2], false,
 .seq (.reg [1] [⟨(some 1), none, .box (.t 0)⟩,
    ⟨(some 2), none, .mov (.c (.g (.bool false)))⟩]) <|
 .seq (.reg [2] [⟨(some 3), none, .faddr 0 (.t 1)⟩,
    ⟨(some 4), none, .load false 1 (.t 3)⟩,
    ⟨(some 5), none, .faddr 4 (.t 1)⟩,
    ⟨(some 6), none, .load false 1 (.t 5)⟩,
    ⟨(some 7), none, .call (.c (.g (.fn 48))) [(.t 4), (.t 6)]⟩,
    ⟨(some 8), none, .mov (.t 7)⟩,
    ⟨(some 9), (some (8, true)), .faddr 1 (.t 1)⟩,
    ⟨(some 10), (some (8, true)), .load false 1 (.t 9)⟩,
    ⟨(some 11), (some (8, true)), .bin .geq (.t 10) (.c (.g (.int .i64 1)))⟩,
    ⟨(some 12), none, .pick (.t 8) (.t 11) (.c (.g (.bool false)))⟩,
    ⟨(some 13), none, .mov (.t 12)⟩,
    ⟨(some 14), (some (13, true)), .faddr 1 (.t 1)⟩,
    ⟨(some 15), (some (13, true)), .load false 1 (.t 14)⟩,
    ⟨(some 16), (some (13, true)), .bin .leq (.t 15) (.c (.g (.int .i64 4)))⟩,
    ⟨(some 17), none, .pick (.t 13) (.t 16) (.c (.g (.bool false)))⟩,
    ⟨(some 18), none, .mov (.t 17)⟩,
    ⟨(some 19), (some (18, true)), .faddr 2 (.t 1)⟩,
    ⟨(some 20), (some (18, true)), .load false 1 (.t 19)⟩,
    ⟨(some 21), (some (18, true)), .bin .geq (.t 20) (.c (.g (.int .i64 1)))⟩,
    ⟨(some 22), none, .pick (.t 18) (.t 21) (.c (.g (.bool false)))⟩,
    ⟨(some 23), none, .mov (.t 22)⟩,
    ⟨(some 24), (some (23, true)), .faddr 2 (.t 1)⟩,
    ⟨(some 25), (some (23, true)), .load false 1 (.t 24)⟩,
    ⟨(some 26), (some (23, true)), .bin .leq (.t 25) (.c (.g (.int .i64 3)))⟩,
    ⟨(some 27), none, .pick (.t 23) (.t 26) (.c (.g (.bool false)))⟩,
    ⟨(some 28), none, .mov (.t 27)⟩,
    ⟨(some 29), (some (28, true)), .faddr 3 (.t 1)⟩,
    ⟨(some 30), (some (28, true)), .load false 1 (.t 29)⟩,
    ⟨(some 31), (some (28, true)), .bslice 1 1 [.int .i64 0] [(0, 1, (.t 30))]⟩,
    ⟨(some 32), (some (28, true)), .call (.c (.g (.fn 49))) [(.t 31)]⟩,
    ⟨(some 33), none, .pick (.t 28) (.t 32) (.c (.g (.bool false)))⟩,
    ⟨(some 2), none, .mov (.t 33)⟩]) <|
 .ret⟩
def h51 : List (List Nat) := [[1], [2]]
theorem c51 : cFunc Tryz.prog 51 false h51 = some F51 := by kernel_rfl

/-- baton/wire.all[baton/api.Mut] -/
def F52 : IFunc := ⟨3, 17, [.tmp 6], false,
 .seq (.reg [0, 1, 5] [⟨(some 5), none, .box (.t 2)⟩,
    ⟨(some 6), none, .mov (.c (.g (.bool false)))⟩]) <|
 .seq (.reg [6] [⟨(some 7), none, .mov (.t 0)⟩,
    ⟨(some 8), none, .len (.t 7)⟩,
    ⟨(some 9), none, .mov (.t 1)⟩,
    ⟨(some 10), none, .bin .leq (.t 8) (.t 9)⟩,
    ⟨(some 11), none, .mov (.t 10)⟩,
    ⟨(some 12), (some (11, true)), .mov (.t 0)⟩,
    ⟨(some 13), (some (11, true)), .mkfn 73 [(.t 5)]⟩,
    ⟨(some 14), (some (11, true)), .call (.c (.g (.fn 72))) [(.t 12), (.t 13)]⟩,
    ⟨(some 15), (some (11, true)), .un .not (.t 14)⟩,
    ⟨(some 16), none, .pick (.t 11) (.t 15) (.c (.g (.bool false)))⟩,
    ⟨(some 6), none, .mov (.t 16)⟩]) <|
 .ret⟩
def h52 : List (List Nat) := [[0, 1, 5], [6]]
theorem c52 : cFunc Tryz.prog 52 false h52 = some F52 := by kernel_rfl

/-- baton/wire.mayMut -/
def F53 : IFunc := ⟨1, 14, [.tmp 2], false,
 .seq (.reg [1] [⟨(some 1), none, .box (.t 0)⟩,
    ⟨(some 2), none, .mov (.c (.g (.bool false)))⟩]) <|
 .seq (.reg [2] [⟨(some 3), none, .faddr 1 (.t 1)⟩,
    ⟨(some 4), none, .load false 1 (.t 3)⟩,
    ⟨(some 5), none, .faddr 2 (.t 1)⟩,
    ⟨(some 6), none, .load false 1 (.t 5)⟩,
    ⟨(some 7), none, .call (.c (.g (.fn 48))) [(.t 4), (.t 6)]⟩,
    ⟨(some 8), none, .mov (.t 7)⟩,
    ⟨(some 9), (some (8, true)), .faddr 3 (.t 1)⟩,
    ⟨(some 10), (some (8, true)), .load false 1 (.t 9)⟩,
    ⟨(some 11), (some (8, true)), .bslice 1 1 [.int .i64 0] [(0, 1, (.t 10))]⟩,
    ⟨(some 12), (some (8, true)), .call (.c (.g (.fn 49))) [(.t 11)]⟩,
    ⟨(some 13), none, .pick (.t 8) (.t 12) (.c (.g (.bool false)))⟩,
    ⟨(some 2), none, .mov (.t 13)⟩]) <|
 .ret⟩
def h53 : List (List Nat) := [[1], [2]]
theorem c53 : cFunc Tryz.prog 53 false h53 = some F53 := by kernel_rfl

/-- (*strings.Builder).WriteString -/
def F54 : IFunc := ⟨2, 19, [.tmp 4, .tmp 5], false,
 .seq (.reg [0, 1] [⟨(some 4), none, .mov (.c (.g (.int .i64 0)))⟩,
    ⟨(some 5), none, .mov (.c (.g (.nif)))⟩]) <|
 .seq (.reg [0, 1] [⟨(some 6), none, .mov (.t 0)⟩,
    ⟨(some 7), none, .call (.c (.g (.fn 74))) [(.t 6)]⟩]) <|
 .seq (.reg [1] [⟨(some 8), none, .mov (.t 0)⟩,
    ⟨(some 9), none, .mov (.t 0)⟩,
    ⟨(some 10), none, .nilchk (.t 9)⟩,
    ⟨(some 11), none, .faddr 1 (.t 10)⟩,
    ⟨(some 12), none, .load false 1 (.t 11)⟩,
    ⟨(some 13), none, .mov (.t 1)⟩,
    ⟨(some 14), none, .appT 5 (.t 12) (.t 13)⟩,
    ⟨(some 15), none, .nilchk (.t 8)⟩,
    ⟨(some 16), none, .faddr 1 (.t 15)⟩,
    ⟨none, none, .store 1 (.t 16) (.t 14)⟩]) <|
 .seq (.reg [4, 5] [⟨(some 17), none, .mov (.t 1)⟩,
    ⟨(some 18), none, .lenS (.t 17)⟩,
    ⟨(some 4), none, .mov (.t 18)⟩,
    ⟨(some 5), none, .mov (.c (.g (.nif)))⟩]) <|
 .ret⟩
def h54 : List (List Nat) := [[0, 1], [0, 1], [1], [4, 5]]
theorem c54 : cFunc Tryz.prog 54 false h54 = some F54 := by kernel_rfl

/-- baton/shift.Var -/
def L55_0 : IC :=
 .seq (.seq (.reg [0, 3, 5] [⟨(some 4), none, .mov (.t 0)⟩,
     ⟨(some 5), none, .bin .geq (.t 4) (.c (.g (.int .u64 128)))⟩]) <|
  .cond [0, 3] (.t 5)
   (.skip)
   (.exit 0)) <|
 .seq (.block [0, 3] 1 <|
  .reg [0, 3] [⟨(some 8), none, .mov (.t 3)⟩,
    ⟨(some 9), none, .mov (.t 0)⟩,
    ⟨(some 10), none, .conv .u8 (.t 9)⟩,
    ⟨(some 11), none, .bin .or (.t 10) (.c (.g (.int .u8 128)))⟩,
    ⟨(some 12), none, .bslice 1 1 [.int .u8 0] [(0, 1, (.t 11))]⟩,
    ⟨(some 13), none, .app 1 1 (.t 8) (.t 12)⟩,
    ⟨(some 3), none, .mov (.t 13)⟩]) <|
 .reg [0, 3] [⟨(some 6), none, .mov (.t 0)⟩,
   ⟨(some 7), none, .bin .shr (.t 6) (.c (.g (.int .u64 7)))⟩,
   ⟨(some 0), none, .mov (.t 7)⟩]
def F55 : IFunc := ⟨1, 20, [.tmp 2], false,
 .seq (.reg [0] [⟨(some 2), none, .mov (.c (.g (.str [])))⟩]) <|
 .seq (.reg [0, 3] [⟨(some 3), none, .nres 1⟩]) <|
 .seq (.block [0, 3] 0 <|
  .loop [0, 3] [] L55_0) <|
 .seq (.reg [2] [⟨(some 14), none, .mov (.t 3)⟩,
    ⟨(some 15), none, .mov (.t 0)⟩,
    ⟨(some 16), none, .conv .u8 (.t 15)⟩,
    ⟨(some 17), none, .bslice 1 1 [.int .u8 0] [(0, 1, (.t 16))]⟩,
    ⟨(some 18), none, .app 1 1 (.t 14) (.t 17)⟩,
    ⟨(some 19), none, .convBS (.t 18)⟩,
    ⟨(some 2), none, .mov (.t 19)⟩]) <|
 .ret⟩
def h55 : List (List Nat) := [[0], [0, 3], [0, 3], [0, 3], [0, 3, 5], [0, 3], [0, 3], [0, 3], [0, 3], [2]]
theorem c55 : cFunc Tryz.prog 55 false h55 = some F55 := by kernel_rfl

/-- baton/shift.Read -/
def L56_0 : IC :=
 .seq (.reg [1, 7, 21, 22, 23, 24] [⟨(some 24), none, .bin .lss (.t 23) (.t 22)⟩]) <|
 .seq (.cond [1, 7, 21, 22, 23] (.t 24)
   (.skip)
   (.exit 0)) <|
 .seq (.block [1, 7, 21, 22, 23] 1 <|
  .seq (.reg [1, 7, 8, 9, 21, 22, 23] [⟨(some 25), none, .mov (.t 23)⟩,
     ⟨(some 26), none, .iaddr 1 (.t 21) (.t 23)⟩,
     ⟨(some 27), none, .load false 1 (.t 26)⟩,
     ⟨(some 8), none, .mov (.t 25)⟩,
     ⟨(some 9), none, .mov (.t 27)⟩]) <|
  .seq (.seq (.reg [1, 7, 8, 9, 21, 22, 23, 41] [⟨(some 28), none, .mov (.t 8)⟩,
      ⟨(some 29), none, .bin .eql (.t 28) (.c (.g (.int .i64 9)))⟩,
      ⟨(some 30), none, .mov (.t 29)⟩,
      ⟨(some 31), (some (30, true)), .mov (.t 9)⟩,
      ⟨(some 32), (some (30, true)), .bin .gtr (.t 31) (.c (.g (.int .u8 1)))⟩,
      ⟨(some 33), none, .pick (.t 30) (.t 32) (.c (.g (.bool false)))⟩,
      ⟨(some 34), none, .mov (.t 33)⟩,
      ⟨(some 35), (some (34, false)), .mov (.t 8)⟩,
      ⟨(some 36), (some (34, false)), .bin .gtr (.t 35) (.c (.g (.int .i64 0)))⟩,
      ⟨(some 37), (some (34, false)), .mov (.t 36)⟩,
      ⟨(some 38), (some (37, true)), .mov (.t 9)⟩,
      ⟨(some 39), (some (37, true)), .bin .eql (.t 38) (.c (.g (.int .u8 0)))⟩,
      ⟨(some 40), (some (34, false)), .pick (.t 37) (.t 39) (.c (.g (.bool false)))⟩,
      ⟨(some 41), none, .pick (.t 34) (.c (.g (.bool true))) (.t 40)⟩]) <|
   .cond [1, 7, 8, 9, 21, 22, 23] (.t 41)
    (.seq (.reg [4, 5, 6] [⟨(some 4), none, .mov (.c (.g (.int .u64 0)))⟩,
        ⟨(some 5), none, .mov (.c (.g (.int .i64 0)))⟩,
        ⟨(some 6), none, .mov (.c (.g (.int .i64 3)))⟩]) <|
     .ret)
    (.skip)) <|
  .seq (.reg [1, 7, 8, 9, 21, 22, 23] [⟨(some 42), none, .mov (.t 7)⟩,
     ⟨(some 43), none, .mov (.t 9)⟩,
     ⟨(some 44), none, .bin .andNot (.t 43) (.c (.g (.int .u8 128)))⟩,
     ⟨(some 45), none, .conv .u64 (.t 44)⟩,
     ⟨(some 46), none, .mov (.t 8)⟩,
     ⟨(some 47), none, .bin .mul (.c (.g (.int .i64 7))) (.t 46)⟩,
     ⟨(some 48), none, .bin .shl (.t 45) (.t 47)⟩,
     ⟨(some 49), none, .bin .or (.t 42) (.t 48)⟩,
     ⟨(some 7), none, .mov (.t 49)⟩]) <|
  .seq (.reg [1, 7, 8, 21, 22, 23, 51] [⟨(some 50), none, .mov (.t 9)⟩,
     ⟨(some 51), none, .bin .lss (.t 50) (.c (.g (.int .u8 128)))⟩]) <|
  .cond [1, 7, 21, 22, 23] (.t 51)
   (.seq (.reg [4, 5, 6] [⟨(some 52), none, .mov (.t 7)⟩,
       ⟨(some 53), none, .mov (.t 1)⟩,
       ⟨(some 54), none, .mov (.t 8)⟩,
       ⟨(some 55), none, .bin .add (.t 53) (.t 54)⟩,
       ⟨(some 56), none, .bin .add (.t 55) (.c (.g (.int .i64 1)))⟩,
       ⟨(some 4), none, .mov (.t 52)⟩,
       ⟨(some 5), none, .mov (.t 56)⟩,
       ⟨(some 6), none, .mov (.c (.g (.int .i64 0)))⟩]) <|
    .ret)
   (.skip)) <|
 .reg [1, 7, 21, 22, 23] [⟨(some 57), none, .bin .add (.t 23) (.c (.g (.int .i64 1)))⟩,
   ⟨(some 23), none, .mov (.t 57)⟩]
def F56 : IFunc := ⟨2, 58, [.tmp 4, .tmp 5, .tmp 6], false,
 .seq (.reg [0, 1] [⟨(some 4), none, .mov (.c (.g (.int .u64 0)))⟩,
    ⟨(some 5), none, .mov (.c (.g (.int .i64 0)))⟩,
    ⟨(some 6), none, .mov (.c (.g (.int .i64 0)))⟩]) <|
 .seq (.seq (.reg [0, 1, 17] [⟨(some 10), none, .mov (.t 1)⟩,
     ⟨(some 11), none, .bin .lss (.t 10) (.c (.g (.int .i64 0)))⟩,
     ⟨(some 12), none, .mov (.t 11)⟩,
     ⟨(some 13), (some (12, false)), .mov (.t 1)⟩,
     ⟨(some 14), (some (12, false)), .mov (.t 0)⟩,
     ⟨(some 15), (some (12, false)), .lenS (.t 14)⟩,
     ⟨(some 16), (some (12, false)), .bin .gtr (.t 13) (.t 15)⟩,
     ⟨(some 17), none, .pick (.t 12) (.c (.g (.bool true))) (.t 16)⟩]) <|
  .cond [0, 1] (.t 17)
   (.seq (.reg [4, 5, 6] [⟨(some 4), none, .mov (.c (.g (.int .u64 0)))⟩,
       ⟨(some 5), none, .mov (.c (.g (.int .i64 0)))⟩,
       ⟨(some 6), none, .mov (.c (.g (.int .i64 1)))⟩]) <|
    .ret)
   (.skip)) <|
 .seq (.reg [0, 1, 7] [⟨(some 7), none, .mov (.c (.g (.int .u64 0)))⟩]) <|
 .seq (.seq (.reg [1, 7, 21, 22, 23] [⟨(some 18), none, .mov (.t 0)⟩,
     ⟨(some 19), none, .mov (.t 1)⟩,
     ⟨(some 20), none, .slcS (.t 18) (some (.t 19)) none⟩,
     ⟨(some 21), none, .convSB (.t 20)⟩,
     ⟨(some 22), none, .len (.t 21)⟩,
     ⟨(some 23), none, .mov (.c (.g (.int .i64 0)))⟩]) <|
  .block [] 0 <|
  .loop [1, 7, 21, 22, 23] [] L56_0) <|
 .seq (.reg [4, 5, 6] [⟨(some 4), none, .mov (.c (.g (.int .u64 0)))⟩,
    ⟨(some 5), none, .mov (.c (.g (.int .i64 0)))⟩,
    ⟨(some 6), none, .mov (.c (.g (.int .i64 2)))⟩]) <|
 .ret⟩
def h56 : List (List Nat) := [[0, 1], [0, 1, 17], [0, 1], [4, 5, 6], [0, 1, 7], [1, 7, 21, 22, 23], [], [1, 7, 21, 22, 23], [1, 7, 21, 22, 23, 24], [1, 7, 21, 22, 23], [1, 7, 21, 22, 23], [1, 7, 8, 9, 21, 22, 23], [1, 7, 8, 9, 21, 22, 23, 41], [1, 7, 8, 9, 21, 22, 23], [4, 5, 6], [1, 7, 8, 9, 21, 22, 23], [1, 7, 8, 21, 22, 23, 51], [1, 7, 21, 22, 23], [4, 5, 6], [1, 7, 21, 22, 23], [4, 5, 6]]
theorem c56 : cFunc Tryz.prog 56 false h56 = some F56 := by kernel_rfl

/-- baton/batonref01.Read -/
def L57_0 : IC :=
 .seq (.block [0, 1, 7, 8, 9] 1 <|
  .seq (.seq (.reg [0, 1, 7, 8, 9, 26] [⟨(some 21), none, .mov (.t 1)⟩,
      ⟨(some 22), none, .mov (.t 9)⟩,
      ⟨(some 23), none, .bin .add (.t 21) (.t 22)⟩,
      ⟨(some 24), none, .mov (.t 0)⟩,
      ⟨(some 25), none, .lenS (.t 24)⟩,
      ⟨(some 26), none, .bin .geq (.t 23) (.t 25)⟩]) <|
   .cond [0, 1, 7, 8, 9] (.t 26)
    (.seq (.reg [4, 5, 6] [⟨(some 4), none, .mov (.c (.g (.int .u64 0)))⟩,
        ⟨(some 5), none, .mov (.c (.g (.int .i64 0)))⟩,
        ⟨(some 6), none, .mov (.c (.g (.int .i64 2)))⟩]) <|
     .ret)
    (.skip)) <|
  .seq (.reg [0, 1, 7, 8, 9, 10] [⟨(some 27), none, .mov (.t 0)⟩,
     ⟨(some 28), none, .mov (.t 1)⟩,
     ⟨(some 29), none, .mov (.t 9)⟩,
     ⟨(some 30), none, .bin .add (.t 28) (.t 29)⟩,
     ⟨(some 31), none, .index (.t 27) (.t 30)⟩,
     ⟨(some 10), none, .mov (.t 31)⟩]) <|
  .seq (.seq (.reg [0, 1, 7, 8, 9, 10, 45] [⟨(some 32), none, .mov (.t 9)⟩,
      ⟨(some 33), none, .bin .eql (.t 32) (.c (.g (.int .i64 9)))⟩,
      ⟨(some 34), none, .mov (.t 33)⟩,
      ⟨(some 35), (some (34, true)), .mov (.t 10)⟩,
      ⟨(some 36), (some (34, true)), .bin .gtr (.t 35) (.c (.g (.int .u8 1)))⟩,
      ⟨(some 37), none, .pick (.t 34) (.t 36) (.c (.g (.bool false)))⟩,
      ⟨(some 38), none, .mov (.t 37)⟩,
      ⟨(some 39), (some (38, false)), .mov (.t 9)⟩,
      ⟨(some 40), (some (38, false)), .bin .gtr (.t 39) (.c (.g (.int .i64 0)))⟩,
      ⟨(some 41), (some (38, false)), .mov (.t 40)⟩,
      ⟨(some 42), (some (41, true)), .mov (.t 10)⟩,
      ⟨(some 43), (some (41, true)), .bin .eql (.t 42) (.c (.g (.int .u8 0)))⟩,
      ⟨(some 44), (some (38, false)), .pick (.t 41) (.t 43) (.c (.g (.bool false)))⟩,
      ⟨(some 45), none, .pick (.t 38) (.c (.g (.bool true))) (.t 44)⟩]) <|
   .cond [0, 1, 7, 8, 9, 10] (.t 45)
    (.seq (.reg [4, 5, 6] [⟨(some 4), none, .mov (.c (.g (.int .u64 0)))⟩,
        ⟨(some 5), none, .mov (.c (.g (.int .i64 0)))⟩,
        ⟨(some 6), none, .mov (.c (.g (.int .i64 3)))⟩]) <|
     .ret)
    (.skip)) <|
  .seq (.reg [0, 1, 7, 8, 9, 10] [⟨(some 46), none, .mov (.t 7)⟩,
     ⟨(some 47), none, .mov (.t 8)⟩,
     ⟨(some 48), none, .mov (.t 10)⟩,
     ⟨(some 49), none, .bin .rem (.t 48) (.c (.g (.int .u8 128)))⟩,
     ⟨(some 50), none, .conv .u64 (.t 49)⟩,
     ⟨(some 51), none, .bin .mul (.t 47) (.t 50)⟩,
     ⟨(some 52), none, .bin .add (.t 46) (.t 51)⟩,
     ⟨(some 7), none, .mov (.t 52)⟩]) <|
  .seq (.seq (.reg [0, 1, 7, 8, 9, 54] [⟨(some 53), none, .mov (.t 10)⟩,
      ⟨(some 54), none, .bin .lss (.t 53) (.c (.g (.int .u8 128)))⟩]) <|
   .cond [0, 1, 7, 8, 9] (.t 54)
    (.seq (.reg [4, 5, 6] [⟨(some 55), none, .mov (.t 7)⟩,
        ⟨(some 56), none, .mov (.t 1)⟩,
        ⟨(some 57), none, .mov (.t 9)⟩,
        ⟨(some 58), none, .bin .add (.t 56) (.t 57)⟩,
        ⟨(some 59), none, .bin .add (.t 58) (.c (.g (.int .i64 1)))⟩,
        ⟨(some 4), none, .mov (.t 55)⟩,
        ⟨(some 5), none, .mov (.t 59)⟩,
        ⟨(some 6), none, .mov (.c (.g (.int .i64 0)))⟩]) <|
     .ret)
    (.skip)) <|
  .reg [0, 1, 7, 8, 9] [⟨(some 60), none, .mov (.t 8)⟩,
    ⟨(some 61), none, .bin .mul (.t 60) (.c (.g (.int .u64 128)))⟩,
    ⟨(some 8), none, .mov (.t 61)⟩]) <|
 .reg [0, 1, 7, 8, 9] [⟨(some 19), none, .mov (.t 9)⟩,
   ⟨(some 20), none, .bin .add (.t 19) (.c (.g (.int .i64 1)))⟩,
   ⟨(some 9), none, .mov (.t 20)⟩]
def F57 : IFunc := ⟨2, 62, [.tmp 4, .tmp 5, .tmp 6], false,
 .seq (.reg [0, 1] [⟨(some 4), none, .mov (.c (.g (.int .u64 0)))⟩,
    ⟨(some 5), none, .mov (.c (.g (.int .i64 0)))⟩,
    ⟨(some 6), none, .mov (.c (.g (.int .i64 0)))⟩]) <|
 .seq (.seq (.reg [0, 1, 18] [⟨(some 11), none, .mov (.t 1)⟩,
     ⟨(some 12), none, .bin .lss (.t 11) (.c (.g (.int .i64 0)))⟩,
     ⟨(some 13), none, .mov (.t 12)⟩,
     ⟨(some 14), (some (13, false)), .mov (.t 1)⟩,
     ⟨(some 15), (some (13, false)), .mov (.t 0)⟩,
     ⟨(some 16), (some (13, false)), .lenS (.t 15)⟩,
     ⟨(some 17), (some (13, false)), .bin .gtr (.t 14) (.t 16)⟩,
     ⟨(some 18), none, .pick (.t 13) (.c (.g (.bool true))) (.t 17)⟩]) <|
  .cond [0, 1] (.t 18)
   (.seq (.reg [4, 5, 6] [⟨(some 4), none, .mov (.c (.g (.int .u64 0)))⟩,
       ⟨(some 5), none, .mov (.c (.g (.int .i64 0)))⟩,
       ⟨(some 6), none, .mov (.c (.g (.int .i64 1)))⟩]) <|
    .ret)
   (.skip)) <|
 .seq (.reg [0, 1, 7] [⟨(some 7), none, .mov (.c (.g (.int .u64 0)))⟩]) <|
 .seq (.reg [0, 1, 7, 8] [⟨(some 8), none, .mov (.c (.g (.int .u64 1)))⟩]) <|
 .seq (.reg [0, 1, 7, 8, 9] [⟨(some 9), none, .mov (.c (.g (.int .i64 0)))⟩]) <|
 .block [4, 5, 6] 0 <|
 .loop [0, 1, 7, 8, 9] [] L57_0⟩
def h57 : List (List Nat) := [[0, 1], [0, 1, 18], [0, 1], [4, 5, 6], [0, 1, 7], [0, 1, 7, 8], [0, 1, 7, 8, 9], [4, 5, 6], [0, 1, 7, 8, 9], [0, 1, 7, 8, 9], [0, 1, 7, 8, 9, 26], [0, 1, 7, 8, 9], [4, 5, 6], [0, 1, 7, 8, 9, 10], [0, 1, 7, 8, 9, 10, 45], [0, 1, 7, 8, 9, 10], [4, 5, 6], [0, 1, 7, 8, 9, 10], [0, 1, 7, 8, 9, 54], [0, 1, 7, 8, 9], [4, 5, 6], [0, 1, 7, 8, 9], [0, 1, 7, 8, 9]]
theorem c57 : cFunc Tryz.prog 57 false h57 = some F57 := by kernel_rfl

/-- baton/batonref03.MayAsk -/
def L58_0 : IC :=
 .seq (.seq (.reg [1, 3, 69] [⟨(some 64), none, .mov (.t 3)⟩,
     ⟨(some 65), none, .faddr 10 (.t 1)⟩,
     ⟨(some 66), none, .faddr 0 (.t 65)⟩,
     ⟨(some 67), none, .load false 1 (.t 66)⟩,
     ⟨(some 68), none, .len (.t 67)⟩,
     ⟨(some 69), none, .bin .lss (.t 64) (.t 68)⟩]) <|
  .cond [1, 3] (.t 69)
   (.skip)
   (.exit 0)) <|
 .seq (.block [1, 3] 1 <|
  .seq (.reg [1, 3, 4] [⟨(some 72), none, .faddr 10 (.t 1)⟩,
     ⟨(some 73), none, .faddr 0 (.t 72)⟩,
     ⟨(some 74), none, .load false 1 (.t 73)⟩,
     ⟨(some 75), none, .mov (.t 3)⟩,
     ⟨(some 76), none, .iaddr 5 (.t 74) (.t 75)⟩,
     ⟨(some 77), none, .load true 5 (.t 76)⟩,
     ⟨(some 4), none, .alloc [.z (.str []), .z (.int .i64 0), .z (.int .i64 0), .z (.int .i64 0), .z (.str [])]⟩,
     ⟨none, none, .store 5 (.t 4) (.t 77)⟩]) <|
  .seq (.reg [1, 3, 109] [⟨(some 78), none, .faddr 0 (.t 4)⟩,
     ⟨(some 79), none, .load false 1 (.t 78)⟩,
     ⟨(some 80), none, .faddr 4 (.t 4)⟩,
     ⟨(some 81), none, .load false 1 (.t 80)⟩,
     ⟨(some 82), none, .call (.c (.g (.fn 76))) [(.t 79), (.t 81)]⟩,
     ⟨(some 83), none, .un .not (.t 82)⟩,
     ⟨(some 84), none, .mov (.t 83)⟩,
     ⟨(some 85), (some (84, false)), .faddr 1 (.t 4)⟩,
     ⟨(some 86), (some (84, false)), .load false 1 (.t 85)⟩,
     ⟨(some 87), (some (84, false)), .bin .lss (.t 86) (.c (.g (.int .i64 1)))⟩,
     ⟨(some 88), none, .pick (.t 84) (.c (.g (.bool true))) (.t 87)⟩,
     ⟨(some 89), none, .mov (.t 88)⟩,
     ⟨(some 90), (some (89, false)), .faddr 1 (.t 4)⟩,
     ⟨(some 91), (some (89, false)), .load false 1 (.t 90)⟩,
     ⟨(some 92), (some (89, false)), .bin .gtr (.t 91) (.c (.g (.int .i64 4)))⟩,
     ⟨(some 93), none, .pick (.t 89) (.c (.g (.bool true))) (.t 92)⟩,
     ⟨(some 94), none, .mov (.t 93)⟩,
     ⟨(some 95), (some (94, false)), .faddr 2 (.t 4)⟩,
     ⟨(some 96), (some (94, false)), .load false 1 (.t 95)⟩,
     ⟨(some 97), (some (94, false)), .bin .lss (.t 96) (.c (.g (.int .i64 1)))⟩,
     ⟨(some 98), none, .pick (.t 94) (.c (.g (.bool true))) (.t 97)⟩,
     ⟨(some 99), none, .mov (.t 98)⟩,
     ⟨(some 100), (some (99, false)), .faddr 2 (.t 4)⟩,
     ⟨(some 101), (some (99, false)), .load false 1 (.t 100)⟩,
     ⟨(some 102), (some (99, false)), .bin .gtr (.t 101) (.c (.g (.int .i64 3)))⟩,
     ⟨(some 103), none, .pick (.t 99) (.c (.g (.bool true))) (.t 102)⟩,
     ⟨(some 104), none, .mov (.t 103)⟩,
     ⟨(some 105), (some (104, false)), .faddr 3 (.t 4)⟩,
     ⟨(some 106), (some (104, false)), .load false 1 (.t 105)⟩,
     ⟨(some 107), (some (104, false)), .call (.c (.g (.fn 75))) [(.t 106)]⟩,
     ⟨(some 108), (some (104, false)), .un .not (.t 107)⟩,
     ⟨(some 109), none, .pick (.t 104) (.c (.g (.bool true))) (.t 108)⟩]) <|
  .cond [1, 3] (.t 109)
   (.seq (.reg [2] [⟨(some 2), none, .mov (.c (.g (.bool false)))⟩]) <|
    .ret)
   (.skip)) <|
 .reg [1, 3] [⟨(some 70), none, .mov (.t 3)⟩,
   ⟨(some 71), none, .bin .add (.t 70) (.c (.g (.int .i64 1)))⟩,
   ⟨(some 3), none, .mov (.t 71)⟩]
def F58 : IFunc := ⟨1, 120, [.tmp 2], false,
 .seq (.reg [1] [⟨(some 1), none, .box (.t 0)⟩,
    ⟨(some 2), none, .mov (.c (.g (.bool false)))⟩]) <|
 .seq (.seq (.reg [1, 63] [⟨(some 5), none, .faddr 0 (.t 1)⟩,
     ⟨(some 6), none, .load false 1 (.t 5)⟩,
     ⟨(some 7), none, .bin .lss (.t 6) (.c (.g (.int .i64 1)))⟩,
     ⟨(some 8), none, .mov (.t 7)⟩,
     ⟨(some 9), (some (8, false)), .faddr 0 (.t 1)⟩,
     ⟨(some 10), (some (8, false)), .load false 1 (.t 9)⟩,
     ⟨(some 11), (some (8, false)), .bin .gtr (.t 10) (.c (.g (.int .i64 8)))⟩,
     ⟨(some 12), none, .pick (.t 8) (.c (.g (.bool true))) (.t 11)⟩,
     ⟨(some 13), none, .mov (.t 12)⟩,
     ⟨(some 14), (some (13, false)), .faddr 1 (.t 1)⟩,
     ⟨(some 15), (some (13, false)), .load false 1 (.t 14)⟩,
     ⟨(some 16), (some (13, false)), .call (.c (.g (.fn 75))) [(.t 15)]⟩,
     ⟨(some 17), (some (13, false)), .un .not (.t 16)⟩,
     ⟨(some 18), none, .pick (.t 13) (.c (.g (.bool true))) (.t 17)⟩,
     ⟨(some 19), none, .mov (.t 18)⟩,
     ⟨(some 20), (some (19, false)), .faddr 2 (.t 1)⟩,
     ⟨(some 21), (some (19, false)), .load false 1 (.t 20)⟩,
     ⟨(some 22), (some (19, false)), .call (.c (.g (.fn 75))) [(.t 21)]⟩,
     ⟨(some 23), (some (19, false)), .un .not (.t 22)⟩,
     ⟨(some 24), none, .pick (.t 19) (.c (.g (.bool true))) (.t 23)⟩,
     ⟨(some 25), none, .mov (.t 24)⟩,
     ⟨(some 26), (some (25, false)), .faddr 6 (.t 1)⟩,
     ⟨(some 27), (some (25, false)), .load false 1 (.t 26)⟩,
     ⟨(some 28), (some (25, false)), .call (.c (.g (.fn 75))) [(.t 27)]⟩,
     ⟨(some 29), (some (25, false)), .un .not (.t 28)⟩,
     ⟨(some 30), none, .pick (.t 25) (.c (.g (.bool true))) (.t 29)⟩,
     ⟨(some 31), none, .mov (.t 30)⟩,
     ⟨(some 32), (some (31, false)), .faddr 7 (.t 1)⟩,
     ⟨(some 33), (some (31, false)), .load false 1 (.t 32)⟩,
     ⟨(some 34), (some (31, false)), .call (.c (.g (.fn 75))) [(.t 33)]⟩,
     ⟨(some 35), (some (31, false)), .un .not (.t 34)⟩,
     ⟨(some 36), none, .pick (.t 31) (.c (.g (.bool true))) (.t 35)⟩,
     ⟨(some 37), none, .mov (.t 36)⟩,
     ⟨(some 38), (some (37, false)), .faddr 8 (.t 1)⟩,
     ⟨(some 39), (some (37, false)), .load false 1 (.t 38)⟩,
     ⟨(some 40), (some (37, false)), .call (.c (.g (.fn 75))) [(.t 39)]⟩,
     ⟨(some 41), (some (37, false)), .un .not (.t 40)⟩,
     ⟨(some 42), none, .pick (.t 37) (.c (.g (.bool true))) (.t 41)⟩,
     ⟨(some 43), none, .mov (.t 42)⟩,
     ⟨(some 44), (some (43, false)), .faddr 9 (.t 1)⟩,
     ⟨(some 45), (some (43, false)), .load false 1 (.t 44)⟩,
     ⟨(some 46), (some (43, false)), .call (.c (.g (.fn 75))) [(.t 45)]⟩,
     ⟨(some 47), (some (43, false)), .un .not (.t 46)⟩,
     ⟨(some 48), none, .pick (.t 43) (.c (.g (.bool true))) (.t 47)⟩,
     ⟨(some 49), none, .mov (.t 48)⟩,
     ⟨(some 50), (some (49, false)), .faddr 4 (.t 1)⟩,
     ⟨(some 51), (some (49, false)), .load false 1 (.t 50)⟩,
     ⟨(some 52), (some (49, false)), .faddr 5 (.t 1)⟩,
     ⟨(some 53), (some (49, false)), .load false 1 (.t 52)⟩,
     ⟨(some 54), (some (49, false)), .call (.c (.g (.fn 76))) [(.t 51), (.t 53)]⟩,
     ⟨(some 55), (some (49, false)), .un .not (.t 54)⟩,
     ⟨(some 56), none, .pick (.t 49) (.c (.g (.bool true))) (.t 55)⟩,
     ⟨(some 57), none, .mov (.t 56)⟩,
     ⟨(some 58), (some (57, false)), .faddr 10 (.t 1)⟩,
     ⟨(some 59), (some (57, false)), .faddr 0 (.t 58)⟩,
     ⟨(some 60), (some (57, false)), .load false 1 (.t 59)⟩,
     ⟨(some 61), (some (57, false)), .len (.t 60)⟩,
     ⟨(some 62), (some (57, false)), .bin .gtr (.t 61) (.c (.g (.int .i64 4)))⟩,
     ⟨(some 63), none, .pick (.t 57) (.c (.g (.bool true))) (.t 62)⟩]) <|
  .cond [1] (.t 63)
   (.seq (.reg [2] [⟨(some 2), none, .mov (.c (.g (.bool false)))⟩]) <|
    .ret)
   (.skip)) <|
 .seq (.seq (.reg [1, 3] [⟨(some 3), none, .mov (.c (.g (.int .i64 0)))⟩]) <|
  .block [1] 0 <|
  .loop [1, 3] [] L58_0) <|
 .seq (.reg [2] [⟨(some 110), none, .faddr 10 (.t 1)⟩,
    ⟨(some 111), none, .faddr 1 (.t 110)⟩,
    ⟨(some 112), none, .load false 1 (.t 111)⟩,
    ⟨(some 113), none, .call (.c (.g (.fn 77))) [(.t 112)]⟩,
    ⟨(some 114), none, .mov (.t 113)⟩,
    ⟨(some 115), (some (114, true)), .faddr 10 (.t 1)⟩,
    ⟨(some 116), (some (114, true)), .faddr 2 (.t 115)⟩,
    ⟨(some 117), (some (114, true)), .load false 1 (.t 116)⟩,
    ⟨(some 118), (some (114, true)), .call (.c (.g (.fn 77))) [(.t 117)]⟩,
    ⟨(some 119), none, .pick (.t 114) (.t 118) (.c (.g (.bool false)))⟩,
    ⟨(some 2), none, .mov (.t 119)⟩]) <|
 .ret⟩
def h58 : List (List Nat) := [[1], [1, 63], [1], [2], [1, 3], [1], [1, 3], [1, 3, 69], [1, 3], [1, 3], [1, 3, 4], [1, 3, 109], [1, 3], [2], [1, 3], [2]]
theorem c58 : cFunc Tryz.prog 58 false h58 = some F58 := by kernel_rfl

/-- baton/batonref03.putN -/
def F59 : IFunc := ⟨1, 6, [.tmp 2], false,
 .seq (.reg [0] [⟨(some 2), none, .mov (.c (.g (.str [])))⟩]) <|
 .seq (.reg [2] [⟨(some 3), none, .mov (.t 0)⟩,
    ⟨(some 4), none, .conv .u64 (.t 3)⟩,
    ⟨(some 5), none, .call (.c (.g (.fn 78))) [(.t 4)]⟩,
    ⟨(some 2), none, .mov (.t 5)⟩]) <|
 .ret⟩
def h59 : List (List Nat) := [[0], [2]]
theorem c59 : cFunc Tryz.prog 59 false h59 = some F59 := by kernel_rfl

/-- baton/batonref03.putB -/
def F60 : IFunc := ⟨1, 4, [.tmp 2], false,
 .seq (.reg [0] [⟨(some 2), none, .mov (.c (.g (.str [])))⟩]) <|
 .seq (.seq (.reg [3] [⟨(some 3), none, .mov (.t 0)⟩]) <|
  .cond [] (.t 3)
   (.seq (.reg [2] [⟨(some 2), none, .mov (.c (.g (.str [1])))⟩]) <|
    .ret)
   (.skip)) <|
 .seq (.reg [2] [⟨(some 2), none, .mov (.c (.g (.str [0])))⟩]) <|
 .ret⟩
def h60 : List (List Nat) := [[0], [3], [], [2], [2]]
theorem c60 : cFunc Tryz.prog 60 false h60 = some F60 := by kernel_rfl

/-- baton/batonref03.putS -/
def F61 : IFunc := ⟨1, 8, [.tmp 2], false,
 .seq (.reg [0] [⟨(some 2), none, .mov (.c (.g (.str [])))⟩]) <|
 .seq (.reg [2] [⟨(some 3), none, .mov (.t 0)⟩,
    ⟨(some 4), none, .lenS (.t 3)⟩,
    ⟨(some 5), none, .call (.c (.g (.fn 59))) [(.t 4)]⟩,
    ⟨(some 6), none, .mov (.t 0)⟩,
    ⟨(some 7), none, .bin .add (.t 5) (.t 6)⟩,
    ⟨(some 2), none, .mov (.t 7)⟩]) <|
 .ret⟩
def h61 : List (List Nat) := [[0], [2]]
theorem c61 : cFunc Tryz.prog 61 false h61 = some F61 := by kernel_rfl

/-- baton/batonref03.putMuts -/
def L62_0 : IC :=
 .seq (.seq (.reg [0, 3, 4, 11] [⟨(some 8), none, .mov (.t 4)⟩,
     ⟨(some 9), none, .mov (.t 0)⟩,
     ⟨(some 10), none, .len (.t 9)⟩,
     ⟨(some 11), none, .bin .lss (.t 8) (.t 10)⟩]) <|
  .cond [0, 3, 4] (.t 11)
   (.skip)
   (.exit 0)) <|
 .seq (.block [0, 3, 4] 1 <|
  .drw [0, 3, 4] 0 <|
  .take ⟨(some 14), none, .mov (.t 3)⟩ <|
  .take ⟨(some 15), none, .mov (.t 0)⟩ <|
  .take ⟨(some 16), none, .mov (.t 4)⟩ <|
  .take ⟨(some 17), none, .iaddr 4 (.t 15) (.t 16)⟩ <|
  .take ⟨(some 18), none, .faddr 0 (.t 17)⟩ <|
  .take ⟨(some 19), none, .load false 1 (.t 18)⟩ <|
  .take ⟨(some 22), none, .mov (.t 0)⟩ <|
  .take ⟨(some 23), none, .mov (.t 4)⟩ <|
  .take ⟨(some 24), none, .iaddr 4 (.t 22) (.t 23)⟩ <|
  .take ⟨(some 25), none, .faddr 1 (.t 24)⟩ <|
  .take ⟨(some 26), none, .load false 1 (.t 25)⟩ <|
  .take ⟨(some 29), none, .mov (.t 0)⟩ <|
  .take ⟨(some 30), none, .mov (.t 4)⟩ <|
  .take ⟨(some 31), none, .iaddr 4 (.t 29) (.t 30)⟩ <|
  .take ⟨(some 32), none, .faddr 2 (.t 31)⟩ <|
  .take ⟨(some 33), none, .load false 1 (.t 32)⟩ <|
  .take ⟨(some 36), none, .mov (.t 0)⟩ <|
  .take ⟨(some 37), none, .mov (.t 4)⟩ <|
  .take ⟨(some 38), none, .iaddr 4 (.t 36) (.t 37)⟩ <|
  .take ⟨(some 39), none, .faddr 3 (.t 38)⟩ <|
  .take ⟨(some 40), none, .load false 1 (.t 39)⟩ <|
  .one ⟨(some 20), none, .call (.c (.g (.fn 60))) [(.t 19)]⟩ <|
  .take ⟨(some 21), none, .bin .add (.t 14) (.t 20)⟩ <|
  .one ⟨(some 27), none, .call (.c (.g (.fn 61))) [(.t 26)]⟩ <|
  .take ⟨(some 28), none, .bin .add (.t 21) (.t 27)⟩ <|
  .one ⟨(some 34), none, .call (.c (.g (.fn 61))) [(.t 33)]⟩ <|
  .take ⟨(some 35), none, .bin .add (.t 28) (.t 34)⟩ <|
  .one ⟨(some 41), none, .call (.c (.g (.fn 59))) [(.t 40)]⟩ <|
  .take ⟨(some 42), none, .bin .add (.t 35) (.t 41)⟩ <|
  .free <|
  .take ⟨(some 3), none, .mov (.t 42)⟩ <|
  .leaf) <|
 .reg [0, 3, 4] [⟨(some 12), none, .mov (.t 4)⟩,
   ⟨(some 13), none, .bin .add (.t 12) (.c (.g (.int .i64 1)))⟩,
   ⟨(some 4), none, .mov (.t 13)⟩]
def F62 : IFunc := ⟨1, 44, [.tmp 2], false,
 .seq (.reg [0] [⟨(some 2), none, .mov (.c (.g (.str [])))⟩]) <|
 .seq (.reg [0, 3] [⟨(some 5), none, .mov (.t 0)⟩,
    ⟨(some 6), none, .len (.t 5)⟩,
    ⟨(some 7), none, .call (.c (.g (.fn 59))) [(.t 6)]⟩,
    ⟨(some 3), none, .mov (.t 7)⟩]) <|
 .seq (.seq (.reg [0, 3, 4] [⟨(some 4), none, .mov (.c (.g (.int .i64 0)))⟩]) <|
  .block [3] 0 <|
  .loop [0, 3, 4] [] L62_0) <|
 .seq (.reg [2] [⟨(some 43), none, .mov (.t 3)⟩,
    ⟨(some 2), none, .mov (.t 43)⟩]) <|
 .ret⟩
def h62 : List (List Nat) := [[0], [0, 3], [0, 3, 4], [3], [0, 3, 4], [0, 3, 4, 11], [0, 3, 4], [0, 3, 4], [0, 3, 4], [], [0, 3, 4], [2]]
theorem c62 : cFunc Tryz.prog 62 false h62 = some F62 := by kernel_rfl

/-- slices.Grow[[]baton/api.Accept,baton/api.Accept] -/
def F67 : IFunc := ⟨2, 27, [.tmp 4], true,
 .seq (.reg [0, 1] [⟨(some 4), none, .nres 3⟩]) <|
 .seq (.seq (.reg [0, 1, 6] [⟨(some 5), none, .mov (.t 1)⟩,
     ⟨(some 6), none, .bin .lss (.t 5) (.c (.g (.int .i64 0)))⟩]) <|
  .cond [0, 1] (.t 6)
   (.reg [0, 1] [⟨(some 7), none, .mkif 9 (.c (.g (.str [99, 97, 110, 110, 111, 116, 32, 98, 101, 32, 110, 101, 103, 97, 116, 105, 118, 101])))⟩,
      ⟨none, none, .row 0 []⟩])
   (.skip)) <|
 .seq (.seq (.reg [0, 1] [⟨(some 8), none, .mov (.t 1)⟩,
     ⟨(some 9), none, .mov (.t 0)⟩,
     ⟨(some 10), none, .cap (.t 9)⟩,
     ⟨(some 11), none, .mov (.t 0)⟩,
     ⟨(some 12), none, .len (.t 11)⟩,
     ⟨(some 13), none, .bin .sub (.t 10) (.t 12)⟩,
     ⟨(some 14), none, .bin .sub (.t 8) (.t 13)⟩,
     ⟨(some 1), none, .mov (.t 14)⟩]) <|
  .seq (.reg [0, 1, 16] [⟨(some 15), none, .mov (.t 1)⟩,
     ⟨(some 16), none, .bin .gtr (.t 15) (.c (.g (.int .i64 0)))⟩]) <|
  .cond [0] (.t 16)
   (.reg [0] [⟨(some 17), none, .mov (.t 0)⟩,
      ⟨(some 18), none, .mov (.t 0)⟩,
      ⟨(some 19), none, .cap (.t 18)⟩,
      ⟨(some 20), none, .slc 3 (.t 17) none (some (.t 19))⟩,
      ⟨(some 21), none, .mov (.t 1)⟩,
      ⟨(some 22), none, .appZ 3 32 [.int .i64 0, .int .i64 0, .str []] (.t 20) (.t 21)⟩,
      ⟨(some 23), none, .mov (.t 0)⟩,
      ⟨(some 24), none, .len (.t 23)⟩,
      ⟨(some 25), none, .slc 3 (.t 22) none (some (.t 24))⟩,
      ⟨(some 0), none, .mov (.t 25)⟩])
   (.skip)) <|
 .seq (.reg [4] [⟨(some 26), none, .mov (.t 0)⟩,
    ⟨(some 4), none, .mov (.t 26)⟩]) <|
 .ret⟩
def h67 : List (List Nat) := [[0, 1], [0, 1, 6], [0, 1], [0, 1], [0, 1], [0, 1, 16], [0], [0], [4]]
theorem c67 : cFunc Tryz.prog 67 true h67 = some F67 := by kernel_rfl

/-- slices.ContainsFunc[[]int,int] -/
def F68 : IFunc := ⟨2, 9, [.tmp 4], false,
 .seq (.reg [0, 1] [⟨(some 4), none, .mov (.c (.g (.bool false)))⟩]) <|
 .seq (.reg [4] [⟨(some 5), none, .mov (.t 0)⟩,
    ⟨(some 6), none, .mov (.t 1)⟩,
    ⟨(some 7), none, .call (.c (.g (.fn 90))) [(.t 5), (.t 6)]⟩,
    ⟨(some 8), none, .bin .geq (.t 7) (.c (.g (.int .i64 0)))⟩,
    ⟨(some 4), none, .mov (.t 8)⟩]) <|
 .ret⟩
def h68 : List (List Nat) := [[0, 1], [4]]
theorem c68 : cFunc Tryz.prog 68 false h68 = some F68 := by kernel_rfl

/-- baton/wire.number$1 -/
def F69 : IFunc := ⟨1, 9, [.tmp 2], false,
 .seq (.reg [0] [⟨(some 2), none, .mov (.c (.g (.bool false)))⟩]) <|
 .seq (.reg [2] [⟨(some 3), none, .mov (.t 0)⟩,
    ⟨(some 4), none, .bin .lss (.t 3) (.c (.g (.int .i64 0)))⟩,
    ⟨(some 5), none, .mov (.t 4)⟩,
    ⟨(some 6), (some (5, false)), .mov (.t 0)⟩,
    ⟨(some 7), (some (5, false)), .bin .gtr (.t 6) (.c (.g (.int .i64 1099511627775)))⟩,
    ⟨(some 8), none, .pick (.t 5) (.c (.g (.bool true))) (.t 7)⟩,
    ⟨(some 2), none, .mov (.t 8)⟩]) <|
 .ret⟩
def h69 : List (List Nat) := [[0], [2]]
theorem c69 : cFunc Tryz.prog 69 false h69 = some F69 := by kernel_rfl

/-- slices.ContainsFunc[[]baton/api.Cmp,baton/api.Cmp] -/
def F70 : IFunc := ⟨2, 9, [.tmp 4], false,
 .seq (.reg [0, 1] [⟨(some 4), none, .mov (.c (.g (.bool false)))⟩]) <|
 .seq (.reg [4] [⟨(some 5), none, .mov (.t 0)⟩,
    ⟨(some 6), none, .mov (.t 1)⟩,
    ⟨(some 7), none, .call (.c (.g (.fn 91))) [(.t 5), (.t 6)]⟩,
    ⟨(some 8), none, .bin .geq (.t 7) (.c (.g (.int .i64 0)))⟩,
    ⟨(some 4), none, .mov (.t 8)⟩]) <|
 .ret⟩
def h70 : List (List Nat) := [[0, 1], [4]]
theorem c70 : cFunc Tryz.prog 70 false h70 = some F70 := by kernel_rfl

/-- baton/wire.all[baton/api.Cmp]$1 -/
def F71 : IFunc := ⟨2, 8, [.tmp 3], false,
 .seq (.reg [1, 2] [⟨(some 2), none, .box (.t 0)⟩,
    ⟨(some 3), none, .mov (.c (.g (.bool false)))⟩]) <|
 .seq (.reg [3] [⟨(some 4), none, .load false 1 (.t 1)⟩,
    ⟨(some 5), none, .load true 5 (.t 2)⟩,
    ⟨(some 6), none, .call (.t 4) [(.t 5)]⟩,
    ⟨(some 7), none, .un .not (.t 6)⟩,
    ⟨(some 3), none, .mov (.t 7)⟩]) <|
 .ret⟩
def h71 : List (List Nat) := [[1, 2], [3]]
theorem c71 : cFunc Tryz.prog 71 false h71 = some F71 := by kernel_rfl

/-- slices.ContainsFunc[[]baton/api.Mut,baton/api.Mut] -/
def F72 : IFunc := ⟨2, 9, [.tmp 4], false,
 .seq (.reg [0, 1] [⟨(some 4), none, .mov (.c (.g (.bool false)))⟩]) <|
 .seq (.reg [4] [⟨(some 5), none, .mov (.t 0)⟩,
    ⟨(some 6), none, .mov (.t 1)⟩,
    ⟨(some 7), none, .call (.c (.g (.fn 92))) [(.t 5), (.t 6)]⟩,
    ⟨(some 8), none, .bin .geq (.t 7) (.c (.g (.int .i64 0)))⟩,
    ⟨(some 4), none, .mov (.t 8)⟩]) <|
 .ret⟩
def h72 : List (List Nat) := [[0, 1], [4]]
theorem c72 : cFunc Tryz.prog 72 false h72 = some F72 := by kernel_rfl

/-- baton/wire.all[baton/api.Mut]$1 -/
def F73 : IFunc := ⟨2, 8, [.tmp 3], false,
 .seq (.reg [1, 2] [⟨(some 2), none, .box (.t 0)⟩,
    ⟨(some 3), none, .mov (.c (.g (.bool false)))⟩]) <|
 .seq (.reg [3] [⟨(some 4), none, .load false 1 (.t 1)⟩,
    ⟨(some 5), none, .load true 4 (.t 2)⟩,
    ⟨(some 6), none, .call (.t 4) [(.t 5)]⟩,
    ⟨(some 7), none, .un .not (.t 6)⟩,
    ⟨(some 3), none, .mov (.t 7)⟩]) <|
 .ret⟩
def h73 : List (List Nat) := [[1, 2], [3]]
theorem c73 : cFunc Tryz.prog 73 false h73 = some F73 := by kernel_rfl

/-- (*strings.Builder).copyCheck -/
def F74 : IFunc := ⟨1, 20, [], false,
 .seq (.reg [0, 6] [⟨(some 2), none, .mov (.t 0)⟩,
    ⟨(some 3), none, .nilchk (.t 2)⟩,
    ⟨(some 4), none, .faddr 0 (.t 3)⟩,
    ⟨(some 5), none, .load false 1 (.t 4)⟩,
    ⟨(some 6), none, .isnil false 0 (.t 5)⟩]) <|
 .cond [] (.t 6)
  (.reg [] [⟨(some 7), none, .mov (.t 0)⟩,
     ⟨(some 8), none, .mov (.t 0)⟩,
     ⟨(some 9), none, .toU (.t 8)⟩,
     ⟨(some 10), none, .call (.c (.g (.fn 93))) [(.t 9)]⟩,
     ⟨(some 11), none, .fromU [(60, 2), (61, 2), (62, 2)] (.t 10)⟩,
     ⟨(some 12), none, .nilchk (.t 7)⟩,
     ⟨(some 13), none, .faddr 0 (.t 12)⟩,
     ⟨none, none, .store 1 (.t 13) (.t 11)⟩])
  (.seq (.reg [19] [⟨(some 14), none, .mov (.t 0)⟩,
      ⟨(some 15), none, .nilchk (.t 14)⟩,
      ⟨(some 16), none, .faddr 0 (.t 15)⟩,
      ⟨(some 17), none, .load false 1 (.t 16)⟩,
      ⟨(some 18), none, .mov (.t 0)⟩,
      ⟨(some 19), none, .neqp (.t 17) (.t 18)⟩]) <|
   .cond [] (.t 19)
    (.reg [] [⟨none, none, .row 0 []⟩])
    (.skip))⟩
def h74 : List (List Nat) := [[0, 6], [], [], [19], []]
theorem c74 : cFunc Tryz.prog 74 false h74 = some F74 := by kernel_rfl

/-- baton/batonref03.number -/
def F75 : IFunc := ⟨1, 9, [.tmp 2], false,
 .seq (.reg [0] [⟨(some 2), none, .mov (.c (.g (.bool false)))⟩]) <|
 .seq (.reg [2] [⟨(some 3), none, .mov (.t 0)⟩,
    ⟨(some 4), none, .bin .geq (.t 3) (.c (.g (.int .i64 0)))⟩,
    ⟨(some 5), none, .mov (.t 4)⟩,
    ⟨(some 6), (some (5, true)), .mov (.t 0)⟩,
    ⟨(some 7), (some (5, true)), .bin .leq (.t 6) (.c (.g (.int .i64 1099511627775)))⟩,
    ⟨(some 8), none, .pick (.t 5) (.t 7) (.c (.g (.bool false)))⟩,
    ⟨(some 2), none, .mov (.t 8)⟩]) <|
 .ret⟩
def h75 : List (List Nat) := [[0], [2]]
theorem c75 : cFunc Tryz.prog 75 false h75 = some F75 := by kernel_rfl

/-- baton/batonref03.texts -/
def F76 : IFunc := ⟨2, 13, [.tmp 4], false,
 .seq (.reg [0, 1] [⟨(some 4), none, .mov (.c (.g (.bool false)))⟩]) <|
 .seq (.reg [4] [⟨(some 5), none, .mov (.t 0)⟩,
    ⟨(some 6), none, .lenS (.t 5)⟩,
    ⟨(some 7), none, .bin .leq (.t 6) (.c (.g (.int .i64 40)))⟩,
    ⟨(some 8), none, .mov (.t 7)⟩,
    ⟨(some 9), (some (8, true)), .mov (.t 1)⟩,
    ⟨(some 10), (some (8, true)), .lenS (.t 9)⟩,
    ⟨(some 11), (some (8, true)), .bin .leq (.t 10) (.c (.g (.int .i64 20)))⟩,
    ⟨(some 12), none, .pick (.t 8) (.t 11) (.c (.g (.bool false)))⟩,
    ⟨(some 4), none, .mov (.t 12)⟩]) <|
 .ret⟩
def h76 : List (List Nat) := [[0, 1], [4]]
theorem c76 : cFunc Tryz.prog 76 false h76 = some F76 := by kernel_rfl

/-- baton/batonref03.muts -/
def L77_0 : IC :=
 .seq (.seq (.reg [0, 3, 10] [⟨(some 7), none, .mov (.t 3)⟩,
     ⟨(some 8), none, .mov (.t 0)⟩,
     ⟨(some 9), none, .len (.t 8)⟩,
     ⟨(some 10), none, .bin .lss (.t 7) (.t 9)⟩]) <|
  .cond [0, 3] (.t 10)
   (.skip)
   (.exit 0)) <|
 .seq (.block [0, 3] 1 <|
  .seq (.drw [0, 3, 33] 0 <|
   .take ⟨(some 13), none, .mov (.t 0)⟩ <|
   .take ⟨(some 14), none, .mov (.t 3)⟩ <|
   .take ⟨(some 15), none, .iaddr 4 (.t 13) (.t 14)⟩ <|
   .take ⟨(some 16), none, .faddr 1 (.t 15)⟩ <|
   .take ⟨(some 17), none, .load false 1 (.t 16)⟩ <|
   .take ⟨(some 18), none, .mov (.t 0)⟩ <|
   .take ⟨(some 19), none, .mov (.t 3)⟩ <|
   .take ⟨(some 20), none, .iaddr 4 (.t 18) (.t 19)⟩ <|
   .take ⟨(some 21), none, .faddr 2 (.t 20)⟩ <|
   .take ⟨(some 22), none, .load false 1 (.t 21)⟩ <|
   .one ⟨(some 23), none, .call (.c (.g (.fn 76))) [(.t 17), (.t 22)]⟩ <|
   .take ⟨(some 24), none, .un .not (.t 23)⟩ <|
   .take ⟨(some 25), none, .mov (.t 24)⟩ <|
   .take ⟨(some 26), (some (25, false)), .mov (.t 0)⟩ <|
   .take ⟨(some 27), (some (25, false)), .mov (.t 3)⟩ <|
   .take ⟨(some 28), (some (25, false)), .iaddr 4 (.t 26) (.t 27)⟩ <|
   .take ⟨(some 29), (some (25, false)), .faddr 3 (.t 28)⟩ <|
   .one ⟨(some 30), (some (25, false)), .load false 1 (.t 29)⟩ <|
   .one ⟨(some 31), (some (25, false)), .call (.c (.g (.fn 75))) [(.t 30)]⟩ <|
   .take ⟨(some 32), (some (25, false)), .un .not (.t 31)⟩ <|
   .take ⟨(some 33), none, .pick (.t 25) (.c (.g (.bool true))) (.t 32)⟩ <|
   .leaf) <|
  .cond [0, 3] (.t 33)
   (.seq (.reg [2] [⟨(some 2), none, .mov (.c (.g (.bool false)))⟩]) <|
    .ret)
   (.skip)) <|
 .reg [0, 3] [⟨(some 11), none, .mov (.t 3)⟩,
   ⟨(some 12), none, .bin .add (.t 11) (.c (.g (.int .i64 1)))⟩,
   ⟨(some 3), none, .mov (.t 12)⟩]
def F77 : IFunc := ⟨1, 34, [.tmp 2], false,
 .seq (.reg [0] [⟨(some 2), none, .mov (.c (.g (.bool false)))⟩]) <|
 .seq (.seq (.reg [0, 6] [⟨(some 4), none, .mov (.t 0)⟩,
     ⟨(some 5), none, .len (.t 4)⟩,
     ⟨(some 6), none, .bin .gtr (.t 5) (.c (.g (.int .i64 4)))⟩]) <|
  .cond [0] (.t 6)
   (.seq (.reg [2] [⟨(some 2), none, .mov (.c (.g (.bool false)))⟩]) <|
    .ret)
   (.skip)) <|
 .seq (.seq (.reg [0, 3] [⟨(some 3), none, .mov (.c (.g (.int .i64 0)))⟩]) <|
  .block [] 0 <|
  .loop [0, 3] [] L77_0) <|
 .seq (.reg [2] [⟨(some 2), none, .mov (.c (.g (.bool true)))⟩]) <|
 .ret⟩
def h77 : List (List Nat) := [[0], [0, 6], [0], [2], [0, 3], [], [0, 3], [0, 3, 10], [0, 3], [0, 3], [0, 3, 33], [], [0, 3], [2], [0, 3], [2]]
theorem c77 : cFunc Tryz.prog 77 false h77 = some F77 := by kernel_rfl

/-- baton/batonref01.Var -/
def L78_0 : IC :=
 .seq (.seq (.reg [0, 3, 5] [⟨(some 4), none, .mov (.t 0)⟩,
     ⟨(some 5), none, .bin .geq (.t 4) (.c (.g (.int .u64 128)))⟩]) <|
  .cond [0, 3] (.t 5)
   (.skip)
   (.exit 0)) <|
 .block [0, 3] 1 <|
 .seq (.reg [0, 3] [⟨(some 6), none, .mov (.t 3)⟩,
    ⟨(some 7), none, .mov (.t 0)⟩,
    ⟨(some 8), none, .bin .rem (.t 7) (.c (.g (.int .u64 128)))⟩,
    ⟨(some 9), none, .bin .add (.t 8) (.c (.g (.int .u64 128)))⟩,
    ⟨(some 10), none, .conv .u8 (.t 9)⟩,
    ⟨(some 11), none, .bslice 1 1 [.int .u8 0] [(0, 1, (.t 10))]⟩,
    ⟨(some 12), none, .app 1 1 (.t 6) (.t 11)⟩,
    ⟨(some 3), none, .mov (.t 12)⟩]) <|
 .reg [0, 3] [⟨(some 13), none, .mov (.t 0)⟩,
   ⟨(some 14), none, .bin .quo (.t 13) (.c (.g (.int .u64 128)))⟩,
   ⟨(some 0), none, .mov (.t 14)⟩]
def F78 : IFunc := ⟨1, 21, [.tmp 2], false,
 .seq (.reg [0] [⟨(some 2), none, .mov (.c (.g (.str [])))⟩]) <|
 .seq (.reg [0, 3] [⟨(some 3), none, .nres 1⟩]) <|
 .seq (.block [0, 3] 0 <|
  .loop [0, 3] [] L78_0) <|
 .seq (.reg [2] [⟨(some 15), none, .mov (.t 3)⟩,
    ⟨(some 16), none, .mov (.t 0)⟩,
    ⟨(some 17), none, .conv .u8 (.t 16)⟩,
    ⟨(some 18), none, .bslice 1 1 [.int .u8 0] [(0, 1, (.t 17))]⟩,
    ⟨(some 19), none, .app 1 1 (.t 15) (.t 18)⟩,
    ⟨(some 20), none, .convBS (.t 19)⟩,
    ⟨(some 2), none, .mov (.t 20)⟩]) <|
 .ret⟩
def h78 : List (List Nat) := [[0], [0, 3], [0, 3], [0, 3], [0, 3, 5], [0, 3], [0, 3], [0, 3], [0, 3], [2]]
theorem c78 : cFunc Tryz.prog 78 false h78 = some F78 := by kernel_rfl

/-- slices.IndexFunc[[]int,int] -/
def L90_0 : IC :=
 .seq (.reg [0, 1, 7, 8, 9] [⟨(some 9), none, .bin .lss (.t 8) (.t 7)⟩]) <|
 .seq (.cond [0, 1, 7, 8] (.t 9)
   (.skip)
   (.exit 0)) <|
 .seq (.block [0, 1, 7, 8] 1 <|
  .seq (.reg [0, 1, 5, 7, 8] [⟨(some 10), none, .mov (.t 8)⟩,
     ⟨(some 5), none, .mov (.t 10)⟩]) <|
  .seq (.reg [0, 1, 5, 7, 8, 16] [⟨(some 11), none, .mov (.t 1)⟩,
     ⟨(some 12), none, .mov (.t 0)⟩,
     ⟨(some 13), none, .mov (.t 5)⟩,
     ⟨(some 14), none, .iaddr 1 (.t 12) (.t 13)⟩,
     ⟨(some 15), none, .load false 1 (.t 14)⟩,
     ⟨(some 16), none, .call (.t 11) [(.t 15)]⟩]) <|
  .cond [0, 1, 7, 8] (.t 16)
   (.seq (.reg [4] [⟨(some 17), none, .mov (.t 5)⟩,
       ⟨(some 4), none, .mov (.t 17)⟩]) <|
    .ret)
   (.skip)) <|
 .reg [0, 1, 7, 8] [⟨(some 18), none, .bin .add (.t 8) (.c (.g (.int .i64 1)))⟩,
   ⟨(some 8), none, .mov (.t 18)⟩]
def F90 : IFunc := ⟨2, 19, [.tmp 4], false,
 .seq (.reg [0, 1] [⟨(some 4), none, .mov (.c (.g (.int .i64 0)))⟩]) <|
 .seq (.seq (.reg [0, 1, 7, 8] [⟨(some 6), none, .mov (.t 0)⟩,
     ⟨(some 7), none, .len (.t 6)⟩,
     ⟨(some 8), none, .mov (.c (.g (.int .i64 0)))⟩]) <|
  .block [] 0 <|
  .loop [0, 1, 7, 8] [] L90_0) <|
 .seq (.reg [4] [⟨(some 4), none, .mov (.c (.g (.int .i64 (-1))))⟩]) <|
 .ret⟩
def h90 : List (List Nat) := [[0, 1], [0, 1, 7, 8], [], [0, 1, 7, 8], [0, 1, 7, 8, 9], [0, 1, 7, 8], [0, 1, 7, 8], [0, 1, 5, 7, 8], [0, 1, 5, 7, 8, 16], [0, 1, 7, 8], [4], [0, 1, 7, 8], [4]]
theorem c90 : cFunc Tryz.prog 90 false h90 = some F90 := by kernel_rfl

/-- slices.IndexFunc[[]baton/api.Cmp,baton/api.Cmp] -/
def L91_0 : IC :=
 .seq (.reg [0, 1, 7, 8, 9] [⟨(some 9), none, .bin .lss (.t 8) (.t 7)⟩]) <|
 .seq (.cond [0, 1, 7, 8] (.t 9)
   (.skip)
   (.exit 0)) <|
 .seq (.block [0, 1, 7, 8] 1 <|
  .seq (.reg [0, 1, 5, 7, 8] [⟨(some 10), none, .mov (.t 8)⟩,
     ⟨(some 5), none, .mov (.t 10)⟩]) <|
  .seq (.reg [0, 1, 5, 7, 8, 16] [⟨(some 11), none, .mov (.t 1)⟩,
     ⟨(some 12), none, .mov (.t 0)⟩,
     ⟨(some 13), none, .mov (.t 5)⟩,
     ⟨(some 14), none, .iaddr 5 (.t 12) (.t 13)⟩,
     ⟨(some 15), none, .load true 5 (.t 14)⟩,
     ⟨(some 16), none, .call (.t 11) [(.t 15)]⟩]) <|
  .cond [0, 1, 7, 8] (.t 16)
   (.seq (.reg [4] [⟨(some 17), none, .mov (.t 5)⟩,
       ⟨(some 4), none, .mov (.t 17)⟩]) <|
    .ret)
   (.skip)) <|
 .reg [0, 1, 7, 8] [⟨(some 18), none, .bin .add (.t 8) (.c (.g (.int .i64 1)))⟩,
   ⟨(some 8), none, .mov (.t 18)⟩]
def F91 : IFunc := ⟨2, 19, [.tmp 4], false,
 .seq (.reg [0, 1] [⟨(some 4), none, .mov (.c (.g (.int .i64 0)))⟩]) <|
 .seq (.seq (.reg [0, 1, 7, 8] [⟨(some 6), none, .mov (.t 0)⟩,
     ⟨(some 7), none, .len (.t 6)⟩,
     ⟨(some 8), none, .mov (.c (.g (.int .i64 0)))⟩]) <|
  .block [] 0 <|
  .loop [0, 1, 7, 8] [] L91_0) <|
 .seq (.reg [4] [⟨(some 4), none, .mov (.c (.g (.int .i64 (-1))))⟩]) <|
 .ret⟩
def h91 : List (List Nat) := [[0, 1], [0, 1, 7, 8], [], [0, 1, 7, 8], [0, 1, 7, 8, 9], [0, 1, 7, 8], [0, 1, 7, 8], [0, 1, 5, 7, 8], [0, 1, 5, 7, 8, 16], [0, 1, 7, 8], [4], [0, 1, 7, 8], [4]]
theorem c91 : cFunc Tryz.prog 91 false h91 = some F91 := by kernel_rfl

/-- slices.IndexFunc[[]baton/api.Mut,baton/api.Mut] -/
def L92_0 : IC :=
 .seq (.reg [0, 1, 7, 8, 9] [⟨(some 9), none, .bin .lss (.t 8) (.t 7)⟩]) <|
 .seq (.cond [0, 1, 7, 8] (.t 9)
   (.skip)
   (.exit 0)) <|
 .seq (.block [0, 1, 7, 8] 1 <|
  .seq (.reg [0, 1, 5, 7, 8] [⟨(some 10), none, .mov (.t 8)⟩,
     ⟨(some 5), none, .mov (.t 10)⟩]) <|
  .seq (.reg [0, 1, 5, 7, 8, 16] [⟨(some 11), none, .mov (.t 1)⟩,
     ⟨(some 12), none, .mov (.t 0)⟩,
     ⟨(some 13), none, .mov (.t 5)⟩,
     ⟨(some 14), none, .iaddr 4 (.t 12) (.t 13)⟩,
     ⟨(some 15), none, .load true 4 (.t 14)⟩,
     ⟨(some 16), none, .call (.t 11) [(.t 15)]⟩]) <|
  .cond [0, 1, 7, 8] (.t 16)
   (.seq (.reg [4] [⟨(some 17), none, .mov (.t 5)⟩,
       ⟨(some 4), none, .mov (.t 17)⟩]) <|
    .ret)
   (.skip)) <|
 .reg [0, 1, 7, 8] [⟨(some 18), none, .bin .add (.t 8) (.c (.g (.int .i64 1)))⟩,
   ⟨(some 8), none, .mov (.t 18)⟩]
def F92 : IFunc := ⟨2, 19, [.tmp 4], false,
 .seq (.reg [0, 1] [⟨(some 4), none, .mov (.c (.g (.int .i64 0)))⟩]) <|
 .seq (.seq (.reg [0, 1, 7, 8] [⟨(some 6), none, .mov (.t 0)⟩,
     ⟨(some 7), none, .len (.t 6)⟩,
     ⟨(some 8), none, .mov (.c (.g (.int .i64 0)))⟩]) <|
  .block [] 0 <|
  .loop [0, 1, 7, 8] [] L92_0) <|
 .seq (.reg [4] [⟨(some 4), none, .mov (.c (.g (.int .i64 (-1))))⟩]) <|
 .ret⟩
def h92 : List (List Nat) := [[0, 1], [0, 1, 7, 8], [], [0, 1, 7, 8], [0, 1, 7, 8, 9], [0, 1, 7, 8], [0, 1, 7, 8], [0, 1, 5, 7, 8], [0, 1, 5, 7, 8, 16], [0, 1, 7, 8], [4], [0, 1, 7, 8], [4]]
theorem c92 : cFunc Tryz.prog 92 false h92 = some F92 := by kernel_rfl

end
end Go.Proofs.YtenndgooepdmiaaGreatDoor
