/- The compiled functions of the seat, part IRf. No conditions. -/
import Derived.Test.YtenndgooepdmiaaAMJ3
import Derived.Test.YtenndgooepdmiaaProg
import Derived.KernelRfl
namespace Go.Proofs.Ytenndgooepdmiaa
open Go Go.AM Go.Proofs
/-- baton/batonlaw03.WireAsks -/
def F3 : IFunc := ⟨2, 70, [.tmp 4], false,
 .seq (.reg [1, 2] [⟨(some 2), none, .box (.t 0)⟩,
    ⟨(some 4), none, .mov (.c (.g (.bool false)))⟩]) <|
 .seq (.seq (.reg [1, 2, 20] [⟨(some 13), none, .load true 13 (.t 2)⟩,
     ⟨(some 14), none, .call (.c (.g (.fn 8))) [(.t 13)]⟩,
     ⟨(some 15), none, .un .not (.t 14)⟩,
     ⟨(some 16), none, .mov (.t 15)⟩,
     ⟨(some 17), (some (16, false)), .mov (.t 1)⟩,
     ⟨(some 18), (some (16, false)), .lenS (.t 17)⟩,
     ⟨(some 19), (some (16, false)), .bin .gtr (.t 18) (.c (.g (.int .i64 600)))⟩,
     ⟨(some 20), none, .pick (.t 16) (.c (.g (.bool true))) (.t 19)⟩]) <|
  .cond [1, 2] (.t 20)
   (.seq (.reg [4] [⟨(some 21), none, .call (.c (.g (.fn 9))) []⟩,
       ⟨(some 4), none, .mov (.t 21)⟩]) <|
    .ret)
   (.skip)) <|
 .seq (.reg [1, 2, 5, 6] [⟨(some 23), none, .load true 13 (.t 2)⟩,
    ⟨(some 24), none, .call (.c (.g (.fn 10))) [(.t 23)]⟩,
    ⟨(some 22), none, .mov (.t 24)⟩,
    ⟨(some 25), none, .ext 0 (.t 22)⟩,
    ⟨(some 26), none, .ext 1 (.t 22)⟩,
    ⟨(some 5), none, .mov (.t 25)⟩,
    ⟨(some 6), none, .mov (.t 26)⟩]) <|
 .seq (.reg [1, 2, 5, 6, 7, 8] [⟨(some 28), none, .load true 13 (.t 2)⟩,
    ⟨(some 29), none, .call (.c (.g (.fn 11))) [(.t 28)]⟩,
    ⟨(some 27), none, .mov (.t 29)⟩,
    ⟨(some 30), none, .ext 0 (.t 27)⟩,
    ⟨(some 31), none, .ext 1 (.t 27)⟩,
    ⟨(some 7), none, .mov (.t 30)⟩,
    ⟨(some 8), none, .mov (.t 31)⟩]) <|
 .seq (.reg [1, 2, 5, 6, 7, 8, 9, 10] [⟨(some 33), none, .mov (.t 1)⟩,
    ⟨(some 34), none, .call (.c (.g (.fn 12))) [(.t 33)]⟩,
    ⟨(some 32), none, .mov (.t 34)⟩,
    ⟨(some 35), none, .ext 0 (.t 32)⟩,
    ⟨(some 36), none, .ext 1 (.t 32)⟩,
    ⟨(some 9), none, .alloc [.z (.int .i64 0), .z (.int .i64 0), .z (.int .i64 0), .z (.bool false), .z (.str []), .z (.str []), .z (.int .i64 0), .z (.int .i64 0), .z (.int .i64 0), .z (.int .i64 0), .s 5, .s 4, .s 4]⟩,
    ⟨none, none, .store 13 (.t 9) (.t 35)⟩,
    ⟨(some 10), none, .mov (.t 36)⟩]) <|
 .seq (.reg [2, 5, 6, 7, 8, 9, 10, 11, 12] [⟨(some 38), none, .mov (.t 1)⟩,
    ⟨(some 39), none, .call (.c (.g (.fn 13))) [(.t 38)]⟩,
    ⟨(some 37), none, .mov (.t 39)⟩,
    ⟨(some 40), none, .ext 0 (.t 37)⟩,
    ⟨(some 41), none, .ext 1 (.t 37)⟩,
    ⟨(some 11), none, .alloc [.z (.int .i64 0), .z (.int .i64 0), .z (.int .i64 0), .z (.bool false), .z (.str []), .z (.str []), .z (.int .i64 0), .z (.int .i64 0), .z (.int .i64 0), .z (.int .i64 0), .s 5, .s 4, .s 4]⟩,
    ⟨none, none, .store 13 (.t 11) (.t 40)⟩,
    ⟨(some 12), none, .mov (.t 41)⟩]) <|
 .seq (.drw [4] 0 <|
  .take ⟨(some 42), none, .load true 13 (.t 2)⟩ <|
  .take ⟨(some 44), none, .load true 13 (.t 2)⟩ <|
  .one ⟨(some 43), none, .call (.c (.g (.fn 14))) [(.t 42)]⟩ <|
  .one ⟨(some 45), none, .call (.c (.g (.fn 15))) [(.t 44)]⟩ <|
  .take ⟨(some 46), none, .eqs false false [.b] (.t 43) (.t 45)⟩ <|
  .take ⟨(some 47), none, .mov (.t 46)⟩ <|
  .take ⟨(some 48), (some (47, true)), .mov (.t 5)⟩ <|
  .take ⟨(some 49), (some (47, true)), .mov (.t 7)⟩ <|
  .take ⟨(some 50), (some (47, true)), .bin .eql (.t 48) (.t 49)⟩ <|
  .take ⟨(some 51), none, .pick (.t 47) (.t 50) (.c (.g (.bool false)))⟩ <|
  .take ⟨(some 52), none, .mov (.t 51)⟩ <|
  .take ⟨(some 53), (some (52, true)), .mov (.t 6)⟩ <|
  .take ⟨(some 54), (some (52, true)), .mov (.t 8)⟩ <|
  .take ⟨(some 55), (some (52, true)), .eqs false false [.b] (.t 53) (.t 54)⟩ <|
  .take ⟨(some 56), none, .pick (.t 52) (.t 55) (.c (.g (.bool false)))⟩ <|
  .take ⟨(some 57), none, .mov (.t 56)⟩ <|
  .alt ⟨(some 58), (some (57, true)), .load true 13 (.t 9)⟩
  (.one ⟨(some 59), (some (57, true)), .load true 13 (.t 11)⟩ <|
   .one ⟨(some 60), (some (57, true)), .call (.c (.g (.fn 16))) [(.t 58), (.t 59)]⟩ <|
   .take ⟨(some 61), none, .pick (.t 57) (.t 60) (.c (.g (.bool false)))⟩ <|
   .take ⟨(some 62), none, .mov (.t 61)⟩ <|
   .take ⟨(some 63), (some (62, true)), .mov (.t 10)⟩ <|
   .take ⟨(some 64), (some (62, true)), .mov (.t 12)⟩ <|
   .take ⟨(some 65), (some (62, true)), .eqs false false [.b] (.t 63) (.t 64)⟩ <|
   .take ⟨(some 66), none, .pick (.t 62) (.t 65) (.c (.g (.bool false)))⟩ <|
   .take ⟨(some 67), none, .mov (.t 66)⟩ <|
   .one ⟨(some 68), (some (67, true)), .call (.c (.g (.fn 9))) []⟩ <|
   .take ⟨(some 69), none, .pick (.t 67) (.t 68) (.c (.g (.bool false)))⟩ <|
   .free <|
   .take ⟨(some 4), none, .mov (.t 69)⟩ <|
   .leaf)
  (.one ⟨(some 59), (some (57, true)), .load true 13 (.t 11)⟩ <|
   .one ⟨(some 58), (some (57, true)), .load true 13 (.t 9)⟩ <|
   .one ⟨(some 60), (some (57, true)), .call (.c (.g (.fn 16))) [(.t 58), (.t 59)]⟩ <|
   .take ⟨(some 61), none, .pick (.t 57) (.t 60) (.c (.g (.bool false)))⟩ <|
   .take ⟨(some 62), none, .mov (.t 61)⟩ <|
   .take ⟨(some 63), (some (62, true)), .mov (.t 10)⟩ <|
   .take ⟨(some 64), (some (62, true)), .mov (.t 12)⟩ <|
   .take ⟨(some 65), (some (62, true)), .eqs false false [.b] (.t 63) (.t 64)⟩ <|
   .take ⟨(some 66), none, .pick (.t 62) (.t 65) (.c (.g (.bool false)))⟩ <|
   .take ⟨(some 67), none, .mov (.t 66)⟩ <|
   .one ⟨(some 68), (some (67, true)), .call (.c (.g (.fn 9))) []⟩ <|
   .take ⟨(some 69), none, .pick (.t 67) (.t 68) (.c (.g (.bool false)))⟩ <|
   .free <|
   .take ⟨(some 4), none, .mov (.t 69)⟩ <|
   .leaf)) <|
 .ret⟩
def h3 : List (List Nat) := [[1, 2], [1, 2, 20], [1, 2], [4], [1, 2, 5, 6], [1, 2, 5, 6, 7, 8], [1, 2, 5, 6, 7, 8, 9, 10], [2, 5, 6, 7, 8, 9, 10, 11, 12], [4], []]
theorem c3 : cFunc Try.prog 3 false h3 = some F3 := by kernel_rfl

/-- baton/batonlaw03.WireTells -/
def F4 : IFunc := ⟨2, 77, [.tmp 4], false,
 .seq (.reg [1, 2] [⟨(some 2), none, .box (.t 0)⟩,
    ⟨(some 4), none, .mov (.c (.g (.bool false)))⟩]) <|
 .seq (.seq (.reg [1, 2, 27] [⟨(some 13), none, .faddr 7 (.t 2)⟩,
     ⟨(some 14), none, .load false 1 (.t 13)⟩,
     ⟨(some 15), none, .call (.c (.g (.fn 17))) [(.t 14), (.c (.g (.int .i64 40)))]⟩,
     ⟨(some 16), none, .un .not (.t 15)⟩,
     ⟨(some 17), none, .mov (.t 16)⟩,
     ⟨(some 18), (some (17, false)), .faddr 8 (.t 2)⟩,
     ⟨(some 19), (some (17, false)), .load false 1 (.t 18)⟩,
     ⟨(some 20), (some (17, false)), .call (.c (.g (.fn 18))) [(.t 19), (.c (.g (.int .i64 40)))]⟩,
     ⟨(some 21), (some (17, false)), .un .not (.t 20)⟩,
     ⟨(some 22), none, .pick (.t 17) (.c (.g (.bool true))) (.t 21)⟩,
     ⟨(some 23), none, .mov (.t 22)⟩,
     ⟨(some 24), (some (23, false)), .mov (.t 1)⟩,
     ⟨(some 25), (some (23, false)), .lenS (.t 24)⟩,
     ⟨(some 26), (some (23, false)), .bin .gtr (.t 25) (.c (.g (.int .i64 3000)))⟩,
     ⟨(some 27), none, .pick (.t 23) (.c (.g (.bool true))) (.t 26)⟩]) <|
  .cond [1, 2] (.t 27)
   (.seq (.reg [4] [⟨(some 28), none, .call (.c (.g (.fn 9))) []⟩,
       ⟨(some 4), none, .mov (.t 28)⟩]) <|
    .ret)
   (.skip)) <|
 .seq (.reg [1, 2, 5, 6] [⟨(some 30), none, .load true 9 (.t 2)⟩,
    ⟨(some 31), none, .call (.c (.g (.fn 19))) [(.t 30)]⟩,
    ⟨(some 29), none, .mov (.t 31)⟩,
    ⟨(some 32), none, .ext 0 (.t 29)⟩,
    ⟨(some 33), none, .ext 1 (.t 29)⟩,
    ⟨(some 5), none, .mov (.t 32)⟩,
    ⟨(some 6), none, .mov (.t 33)⟩]) <|
 .seq (.reg [1, 2, 5, 6, 7, 8] [⟨(some 35), none, .load true 9 (.t 2)⟩,
    ⟨(some 36), none, .call (.c (.g (.fn 20))) [(.t 35)]⟩,
    ⟨(some 34), none, .mov (.t 36)⟩,
    ⟨(some 37), none, .ext 0 (.t 34)⟩,
    ⟨(some 38), none, .ext 1 (.t 34)⟩,
    ⟨(some 7), none, .mov (.t 37)⟩,
    ⟨(some 8), none, .mov (.t 38)⟩]) <|
 .seq (.reg [1, 2, 5, 6, 7, 8, 9, 10] [⟨(some 40), none, .mov (.t 1)⟩,
    ⟨(some 41), none, .call (.c (.g (.fn 21))) [(.t 40)]⟩,
    ⟨(some 39), none, .mov (.t 41)⟩,
    ⟨(some 42), none, .ext 0 (.t 39)⟩,
    ⟨(some 43), none, .ext 1 (.t 39)⟩,
    ⟨(some 9), none, .alloc [.z (.int .i64 0), .z (.int .i64 0), .z (.int .i64 0), .z (.int .i64 0), .z (.int .i64 0), .z (.int .i64 0), .z (.bool false), .s 6, .s 8]⟩,
    ⟨none, none, .store 9 (.t 9) (.t 42)⟩,
    ⟨(some 10), none, .mov (.t 43)⟩]) <|
 .seq (.reg [2, 5, 6, 7, 8, 9, 10, 11, 12] [⟨(some 45), none, .mov (.t 1)⟩,
    ⟨(some 46), none, .call (.c (.g (.fn 22))) [(.t 45)]⟩,
    ⟨(some 44), none, .mov (.t 46)⟩,
    ⟨(some 47), none, .ext 0 (.t 44)⟩,
    ⟨(some 48), none, .ext 1 (.t 44)⟩,
    ⟨(some 11), none, .alloc [.z (.int .i64 0), .z (.int .i64 0), .z (.int .i64 0), .z (.int .i64 0), .z (.int .i64 0), .z (.int .i64 0), .z (.bool false), .s 6, .s 8]⟩,
    ⟨none, none, .store 9 (.t 11) (.t 47)⟩,
    ⟨(some 12), none, .mov (.t 48)⟩]) <|
 .seq (.drw [4] 0 <|
  .take ⟨(some 49), none, .load true 9 (.t 2)⟩ <|
  .take ⟨(some 51), none, .load true 9 (.t 2)⟩ <|
  .one ⟨(some 50), none, .call (.c (.g (.fn 23))) [(.t 49)]⟩ <|
  .one ⟨(some 52), none, .call (.c (.g (.fn 24))) [(.t 51)]⟩ <|
  .take ⟨(some 53), none, .eqs false false [.b] (.t 50) (.t 52)⟩ <|
  .take ⟨(some 54), none, .mov (.t 53)⟩ <|
  .take ⟨(some 55), (some (54, true)), .mov (.t 5)⟩ <|
  .take ⟨(some 56), (some (54, true)), .mov (.t 7)⟩ <|
  .take ⟨(some 57), (some (54, true)), .bin .eql (.t 55) (.t 56)⟩ <|
  .take ⟨(some 58), none, .pick (.t 54) (.t 57) (.c (.g (.bool false)))⟩ <|
  .take ⟨(some 59), none, .mov (.t 58)⟩ <|
  .take ⟨(some 60), (some (59, true)), .mov (.t 6)⟩ <|
  .take ⟨(some 61), (some (59, true)), .mov (.t 8)⟩ <|
  .take ⟨(some 62), (some (59, true)), .eqs false false [.b] (.t 60) (.t 61)⟩ <|
  .take ⟨(some 63), none, .pick (.t 59) (.t 62) (.c (.g (.bool false)))⟩ <|
  .take ⟨(some 64), none, .mov (.t 63)⟩ <|
  .alt ⟨(some 65), (some (64, true)), .load true 9 (.t 9)⟩
  (.one ⟨(some 66), (some (64, true)), .load true 9 (.t 11)⟩ <|
   .one ⟨(some 67), (some (64, true)), .call (.c (.g (.fn 25))) [(.t 65), (.t 66)]⟩ <|
   .take ⟨(some 68), none, .pick (.t 64) (.t 67) (.c (.g (.bool false)))⟩ <|
   .take ⟨(some 69), none, .mov (.t 68)⟩ <|
   .take ⟨(some 70), (some (69, true)), .mov (.t 10)⟩ <|
   .take ⟨(some 71), (some (69, true)), .mov (.t 12)⟩ <|
   .take ⟨(some 72), (some (69, true)), .eqs false false [.b] (.t 70) (.t 71)⟩ <|
   .take ⟨(some 73), none, .pick (.t 69) (.t 72) (.c (.g (.bool false)))⟩ <|
   .take ⟨(some 74), none, .mov (.t 73)⟩ <|
   .one ⟨(some 75), (some (74, true)), .call (.c (.g (.fn 9))) []⟩ <|
   .take ⟨(some 76), none, .pick (.t 74) (.t 75) (.c (.g (.bool false)))⟩ <|
   .free <|
   .take ⟨(some 4), none, .mov (.t 76)⟩ <|
   .leaf)
  (.one ⟨(some 66), (some (64, true)), .load true 9 (.t 11)⟩ <|
   .one ⟨(some 65), (some (64, true)), .load true 9 (.t 9)⟩ <|
   .one ⟨(some 67), (some (64, true)), .call (.c (.g (.fn 25))) [(.t 65), (.t 66)]⟩ <|
   .take ⟨(some 68), none, .pick (.t 64) (.t 67) (.c (.g (.bool false)))⟩ <|
   .take ⟨(some 69), none, .mov (.t 68)⟩ <|
   .take ⟨(some 70), (some (69, true)), .mov (.t 10)⟩ <|
   .take ⟨(some 71), (some (69, true)), .mov (.t 12)⟩ <|
   .take ⟨(some 72), (some (69, true)), .eqs false false [.b] (.t 70) (.t 71)⟩ <|
   .take ⟨(some 73), none, .pick (.t 69) (.t 72) (.c (.g (.bool false)))⟩ <|
   .take ⟨(some 74), none, .mov (.t 73)⟩ <|
   .one ⟨(some 75), (some (74, true)), .call (.c (.g (.fn 9))) []⟩ <|
   .take ⟨(some 76), none, .pick (.t 74) (.t 75) (.c (.g (.bool false)))⟩ <|
   .free <|
   .take ⟨(some 4), none, .mov (.t 76)⟩ <|
   .leaf)) <|
 .ret⟩
def h4 : List (List Nat) := [[1, 2], [1, 2, 27], [1, 2], [4], [1, 2, 5, 6], [1, 2, 5, 6, 7, 8], [1, 2, 5, 6, 7, 8, 9, 10], [2, 5, 6, 7, 8, 9, 10, 11, 12], [4], []]
theorem c4 : cFunc Try.prog 4 false h4 = some F4 := by kernel_rfl

/-- baton/batonlaw03.WireBack -/
def F5 : IFunc := ⟨2, 83, [.tmp 4], false,
 .seq (.reg [1, 2] [⟨(some 2), none, .box (.t 0)⟩,
    ⟨(some 4), none, .mov (.c (.g (.bool false)))⟩]) <|
 .seq (.seq (.reg [1, 2, 20] [⟨(some 13), none, .load true 13 (.t 2)⟩,
     ⟨(some 14), none, .call (.c (.g (.fn 8))) [(.t 13)]⟩,
     ⟨(some 15), none, .un .not (.t 14)⟩,
     ⟨(some 16), none, .mov (.t 15)⟩,
     ⟨(some 17), (some (16, false)), .mov (.t 1)⟩,
     ⟨(some 18), (some (16, false)), .lenS (.t 17)⟩,
     ⟨(some 19), (some (16, false)), .bin .gtr (.t 18) (.c (.g (.int .i64 600)))⟩,
     ⟨(some 20), none, .pick (.t 16) (.c (.g (.bool true))) (.t 19)⟩]) <|
  .cond [1, 2] (.t 20)
   (.seq (.reg [4] [⟨(some 21), none, .call (.c (.g (.fn 9))) []⟩,
       ⟨(some 4), none, .mov (.t 21)⟩]) <|
    .ret)
   (.skip)) <|
 .seq (.reg [1, 2, 5, 6] [⟨(some 23), none, .load true 13 (.t 2)⟩,
    ⟨(some 24), none, .call (.c (.g (.fn 10))) [(.t 23)]⟩,
    ⟨(some 22), none, .mov (.t 24)⟩,
    ⟨(some 25), none, .ext 0 (.t 22)⟩,
    ⟨(some 26), none, .ext 1 (.t 22)⟩,
    ⟨(some 5), none, .mov (.t 25)⟩,
    ⟨(some 6), none, .mov (.t 26)⟩]) <|
 .seq (.reg [1, 2, 5, 6, 7, 8] [⟨(some 28), none, .mov (.t 5)⟩,
    ⟨(some 29), none, .call (.c (.g (.fn 12))) [(.t 28)]⟩,
    ⟨(some 27), none, .mov (.t 29)⟩,
    ⟨(some 30), none, .ext 0 (.t 27)⟩,
    ⟨(some 31), none, .ext 1 (.t 27)⟩,
    ⟨(some 7), none, .alloc [.z (.int .i64 0), .z (.int .i64 0), .z (.int .i64 0), .z (.bool false), .z (.str []), .z (.str []), .z (.int .i64 0), .z (.int .i64 0), .z (.int .i64 0), .z (.int .i64 0), .s 5, .s 4, .s 4]⟩,
    ⟨none, none, .store 13 (.t 7) (.t 30)⟩,
    ⟨(some 8), none, .mov (.t 31)⟩]) <|
 .seq (.seq (.reg [1, 59] [⟨(some 32), none, .mov (.t 6)⟩,
     ⟨(some 33), none, .mov (.t 32)⟩,
     ⟨(some 34), (some (33, true)), .mov (.t 8)⟩,
     ⟨(some 35), (some (33, true)), .un .not (.t 34)⟩,
     ⟨(some 36), (some (33, true)), .mov (.t 35)⟩,
     ⟨(some 37), (some (36, false)), .load true 13 (.t 7)⟩,
     ⟨(some 38), (some (36, false)), .load true 13 (.t 2)⟩,
     ⟨(some 39), (some (36, false)), .call (.c (.g (.fn 16))) [(.t 37), (.t 38)]⟩,
     ⟨(some 40), (some (36, false)), .un .not (.t 39)⟩,
     ⟨(some 41), (some (33, true)), .pick (.t 36) (.c (.g (.bool true))) (.t 40)⟩,
     ⟨(some 42), (some (33, true)), .mov (.t 41)⟩,
     ⟨(some 43), (some (42, false)), .load true 13 (.t 2)⟩,
     ⟨(some 44), (some (42, false)), .call (.c (.g (.fn 14))) [(.t 43)]⟩,
     ⟨(some 45), (some (42, false)), .un .not (.t 44)⟩,
     ⟨(some 46), (some (33, true)), .pick (.t 42) (.c (.g (.bool true))) (.t 45)⟩,
     ⟨(some 47), none, .pick (.t 33) (.t 46) (.c (.g (.bool false)))⟩,
     ⟨(some 48), none, .mov (.t 47)⟩,
     ⟨(some 49), (some (48, false)), .mov (.t 6)⟩,
     ⟨(some 50), (some (48, false)), .un .not (.t 49)⟩,
     ⟨(some 51), (some (48, false)), .mov (.t 50)⟩,
     ⟨(some 52), (some (51, true)), .load true 13 (.t 2)⟩,
     ⟨(some 53), (some (51, true)), .call (.c (.g (.fn 14))) [(.t 52)]⟩,
     ⟨(some 54), (some (51, true)), .mov (.t 53)⟩,
     ⟨(some 55), (some (54, false)), .mov (.t 5)⟩,
     ⟨(some 56), (some (54, false)), .bin .neq (.t 55) (.c (.g (.str [])))⟩,
     ⟨(some 57), (some (51, true)), .pick (.t 54) (.c (.g (.bool true))) (.t 56)⟩,
     ⟨(some 58), (some (48, false)), .pick (.t 51) (.t 57) (.c (.g (.bool false)))⟩,
     ⟨(some 59), none, .pick (.t 48) (.c (.g (.bool true))) (.t 58)⟩]) <|
  .cond [1] (.t 59)
   (.seq (.reg [4] [⟨(some 4), none, .mov (.c (.g (.bool false)))⟩]) <|
    .ret)
   (.skip)) <|
 .seq (.reg [1, 9, 10] [⟨(some 61), none, .mov (.t 1)⟩,
    ⟨(some 62), none, .call (.c (.g (.fn 12))) [(.t 61)]⟩,
    ⟨(some 60), none, .mov (.t 62)⟩,
    ⟨(some 63), none, .ext 0 (.t 60)⟩,
    ⟨(some 64), none, .ext 1 (.t 60)⟩,
    ⟨(some 9), none, .alloc [.z (.int .i64 0), .z (.int .i64 0), .z (.int .i64 0), .z (.bool false), .z (.str []), .z (.str []), .z (.int .i64 0), .z (.int .i64 0), .z (.int .i64 0), .z (.int .i64 0), .s 5, .s 4, .s 4]⟩,
    ⟨none, none, .store 13 (.t 9) (.t 63)⟩,
    ⟨(some 10), none, .mov (.t 64)⟩]) <|
 .seq (.reg [1, 10, 11, 12] [⟨(some 66), none, .load true 13 (.t 9)⟩,
    ⟨(some 67), none, .call (.c (.g (.fn 10))) [(.t 66)]⟩,
    ⟨(some 65), none, .mov (.t 67)⟩,
    ⟨(some 68), none, .ext 0 (.t 65)⟩,
    ⟨(some 69), none, .ext 1 (.t 65)⟩,
    ⟨(some 11), none, .mov (.t 68)⟩,
    ⟨(some 12), none, .mov (.t 69)⟩]) <|
 .seq (.reg [4] [⟨(some 70), none, .mov (.t 10)⟩,
    ⟨(some 71), none, .un .not (.t 70)⟩,
    ⟨(some 72), none, .mov (.t 71)⟩,
    ⟨(some 73), (some (72, false)), .mov (.t 12)⟩,
    ⟨(some 74), (some (72, false)), .mov (.t 73)⟩,
    ⟨(some 75), (some (74, true)), .mov (.t 11)⟩,
    ⟨(some 76), (some (74, true)), .mov (.t 1)⟩,
    ⟨(some 77), (some (74, true)), .bin .eql (.t 75) (.t 76)⟩,
    ⟨(some 78), (some (72, false)), .pick (.t 74) (.t 77) (.c (.g (.bool false)))⟩,
    ⟨(some 79), none, .pick (.t 72) (.c (.g (.bool true))) (.t 78)⟩,
    ⟨(some 80), none, .mov (.t 79)⟩,
    ⟨(some 81), (some (80, true)), .call (.c (.g (.fn 9))) []⟩,
    ⟨(some 82), none, .pick (.t 80) (.t 81) (.c (.g (.bool false)))⟩,
    ⟨(some 4), none, .mov (.t 82)⟩]) <|
 .ret⟩
def h5 : List (List Nat) := [[1, 2], [1, 2, 20], [1, 2], [4], [1, 2, 5, 6], [1, 2, 5, 6, 7, 8], [1, 59], [1], [4], [1, 9, 10], [1, 10, 11, 12], [4]]
theorem c5 : cFunc Try.prog 5 false h5 = some F5 := by kernel_rfl

/-- baton/batonlaw03.WireReplies -/
def F6 : IFunc := ⟨2, 90, [.tmp 4], false,
 .seq (.reg [1, 2] [⟨(some 2), none, .box (.t 0)⟩,
    ⟨(some 4), none, .mov (.c (.g (.bool false)))⟩]) <|
 .seq (.seq (.reg [1, 2, 27] [⟨(some 13), none, .faddr 7 (.t 2)⟩,
     ⟨(some 14), none, .load false 1 (.t 13)⟩,
     ⟨(some 15), none, .call (.c (.g (.fn 17))) [(.t 14), (.c (.g (.int .i64 40)))]⟩,
     ⟨(some 16), none, .un .not (.t 15)⟩,
     ⟨(some 17), none, .mov (.t 16)⟩,
     ⟨(some 18), (some (17, false)), .faddr 8 (.t 2)⟩,
     ⟨(some 19), (some (17, false)), .load false 1 (.t 18)⟩,
     ⟨(some 20), (some (17, false)), .call (.c (.g (.fn 18))) [(.t 19), (.c (.g (.int .i64 40)))]⟩,
     ⟨(some 21), (some (17, false)), .un .not (.t 20)⟩,
     ⟨(some 22), none, .pick (.t 17) (.c (.g (.bool true))) (.t 21)⟩,
     ⟨(some 23), none, .mov (.t 22)⟩,
     ⟨(some 24), (some (23, false)), .mov (.t 1)⟩,
     ⟨(some 25), (some (23, false)), .lenS (.t 24)⟩,
     ⟨(some 26), (some (23, false)), .bin .gtr (.t 25) (.c (.g (.int .i64 3000)))⟩,
     ⟨(some 27), none, .pick (.t 23) (.c (.g (.bool true))) (.t 26)⟩]) <|
  .cond [1, 2] (.t 27)
   (.seq (.reg [4] [⟨(some 28), none, .call (.c (.g (.fn 9))) []⟩,
       ⟨(some 4), none, .mov (.t 28)⟩]) <|
    .ret)
   (.skip)) <|
 .seq (.reg [1, 2, 5, 6] [⟨(some 30), none, .load true 9 (.t 2)⟩,
    ⟨(some 31), none, .call (.c (.g (.fn 19))) [(.t 30)]⟩,
    ⟨(some 29), none, .mov (.t 31)⟩,
    ⟨(some 32), none, .ext 0 (.t 29)⟩,
    ⟨(some 33), none, .ext 1 (.t 29)⟩,
    ⟨(some 5), none, .mov (.t 32)⟩,
    ⟨(some 6), none, .mov (.t 33)⟩]) <|
 .seq (.reg [1, 2, 5, 6, 7, 8] [⟨(some 35), none, .mov (.t 5)⟩,
    ⟨(some 36), none, .call (.c (.g (.fn 21))) [(.t 35)]⟩,
    ⟨(some 34), none, .mov (.t 36)⟩,
    ⟨(some 37), none, .ext 0 (.t 34)⟩,
    ⟨(some 38), none, .ext 1 (.t 34)⟩,
    ⟨(some 7), none, .alloc [.z (.int .i64 0), .z (.int .i64 0), .z (.int .i64 0), .z (.int .i64 0), .z (.int .i64 0), .z (.int .i64 0), .z (.bool false), .s 6, .s 8]⟩,
    ⟨none, none, .store 9 (.t 7) (.t 37)⟩,
    ⟨(some 8), none, .mov (.t 38)⟩]) <|
 .seq (.seq (.reg [1, 66] [⟨(some 39), none, .mov (.t 6)⟩,
     ⟨(some 40), none, .mov (.t 39)⟩,
     ⟨(some 41), (some (40, true)), .mov (.t 8)⟩,
     ⟨(some 42), (some (40, true)), .un .not (.t 41)⟩,
     ⟨(some 43), (some (40, true)), .mov (.t 42)⟩,
     ⟨(some 44), (some (43, false)), .load true 9 (.t 7)⟩,
     ⟨(some 45), (some (43, false)), .load true 9 (.t 2)⟩,
     ⟨(some 46), (some (43, false)), .call (.c (.g (.fn 25))) [(.t 44), (.t 45)]⟩,
     ⟨(some 47), (some (43, false)), .un .not (.t 46)⟩,
     ⟨(some 48), (some (40, true)), .pick (.t 43) (.c (.g (.bool true))) (.t 47)⟩,
     ⟨(some 49), (some (40, true)), .mov (.t 48)⟩,
     ⟨(some 50), (some (49, false)), .load true 9 (.t 2)⟩,
     ⟨(some 51), (some (49, false)), .call (.c (.g (.fn 23))) [(.t 50)]⟩,
     ⟨(some 52), (some (49, false)), .un .not (.t 51)⟩,
     ⟨(some 53), (some (40, true)), .pick (.t 49) (.c (.g (.bool true))) (.t 52)⟩,
     ⟨(some 54), none, .pick (.t 40) (.t 53) (.c (.g (.bool false)))⟩,
     ⟨(some 55), none, .mov (.t 54)⟩,
     ⟨(some 56), (some (55, false)), .mov (.t 6)⟩,
     ⟨(some 57), (some (55, false)), .un .not (.t 56)⟩,
     ⟨(some 58), (some (55, false)), .mov (.t 57)⟩,
     ⟨(some 59), (some (58, true)), .load true 9 (.t 2)⟩,
     ⟨(some 60), (some (58, true)), .call (.c (.g (.fn 23))) [(.t 59)]⟩,
     ⟨(some 61), (some (58, true)), .mov (.t 60)⟩,
     ⟨(some 62), (some (61, false)), .mov (.t 5)⟩,
     ⟨(some 63), (some (61, false)), .bin .neq (.t 62) (.c (.g (.str [])))⟩,
     ⟨(some 64), (some (58, true)), .pick (.t 61) (.c (.g (.bool true))) (.t 63)⟩,
     ⟨(some 65), (some (55, false)), .pick (.t 58) (.t 64) (.c (.g (.bool false)))⟩,
     ⟨(some 66), none, .pick (.t 55) (.c (.g (.bool true))) (.t 65)⟩]) <|
  .cond [1] (.t 66)
   (.seq (.reg [4] [⟨(some 4), none, .mov (.c (.g (.bool false)))⟩]) <|
    .ret)
   (.skip)) <|
 .seq (.reg [1, 9, 10] [⟨(some 68), none, .mov (.t 1)⟩,
    ⟨(some 69), none, .call (.c (.g (.fn 21))) [(.t 68)]⟩,
    ⟨(some 67), none, .mov (.t 69)⟩,
    ⟨(some 70), none, .ext 0 (.t 67)⟩,
    ⟨(some 71), none, .ext 1 (.t 67)⟩,
    ⟨(some 9), none, .alloc [.z (.int .i64 0), .z (.int .i64 0), .z (.int .i64 0), .z (.int .i64 0), .z (.int .i64 0), .z (.int .i64 0), .z (.bool false), .s 6, .s 8]⟩,
    ⟨none, none, .store 9 (.t 9) (.t 70)⟩,
    ⟨(some 10), none, .mov (.t 71)⟩]) <|
 .seq (.reg [1, 10, 11, 12] [⟨(some 73), none, .load true 9 (.t 9)⟩,
    ⟨(some 74), none, .call (.c (.g (.fn 19))) [(.t 73)]⟩,
    ⟨(some 72), none, .mov (.t 74)⟩,
    ⟨(some 75), none, .ext 0 (.t 72)⟩,
    ⟨(some 76), none, .ext 1 (.t 72)⟩,
    ⟨(some 11), none, .mov (.t 75)⟩,
    ⟨(some 12), none, .mov (.t 76)⟩]) <|
 .seq (.reg [4] [⟨(some 77), none, .mov (.t 10)⟩,
    ⟨(some 78), none, .un .not (.t 77)⟩,
    ⟨(some 79), none, .mov (.t 78)⟩,
    ⟨(some 80), (some (79, false)), .mov (.t 12)⟩,
    ⟨(some 81), (some (79, false)), .mov (.t 80)⟩,
    ⟨(some 82), (some (81, true)), .mov (.t 11)⟩,
    ⟨(some 83), (some (81, true)), .mov (.t 1)⟩,
    ⟨(some 84), (some (81, true)), .bin .eql (.t 82) (.t 83)⟩,
    ⟨(some 85), (some (79, false)), .pick (.t 81) (.t 84) (.c (.g (.bool false)))⟩,
    ⟨(some 86), none, .pick (.t 79) (.c (.g (.bool true))) (.t 85)⟩,
    ⟨(some 87), none, .mov (.t 86)⟩,
    ⟨(some 88), (some (87, true)), .call (.c (.g (.fn 9))) []⟩,
    ⟨(some 89), none, .pick (.t 87) (.t 88) (.c (.g (.bool false)))⟩,
    ⟨(some 4), none, .mov (.t 89)⟩]) <|
 .ret⟩
def h6 : List (List Nat) := [[1, 2], [1, 2, 27], [1, 2], [4], [1, 2, 5, 6], [1, 2, 5, 6, 7, 8], [1, 66], [1], [4], [1, 9, 10], [1, 10, 11, 12], [4]]
theorem c6 : cFunc Try.prog 6 false h6 = some F6 := by kernel_rfl

/-- baton/batonlaw03.WireApart -/
def F7 : IFunc := ⟨3, 85, [.tmp 6], false,
 .seq (.reg [1, 2, 3] [⟨(some 3), none, .box (.t 0)⟩,
    ⟨(some 6), none, .mov (.c (.g (.bool false)))⟩]) <|
 .seq (.seq (.reg [1, 2, 3, 24] [⟨(some 17), none, .load true 13 (.t 3)⟩,
     ⟨(some 18), none, .call (.c (.g (.fn 8))) [(.t 17)]⟩,
     ⟨(some 19), none, .un .not (.t 18)⟩,
     ⟨(some 20), none, .mov (.t 19)⟩,
     ⟨(some 21), (some (20, false)), .mov (.t 2)⟩,
     ⟨(some 22), (some (20, false)), .lenS (.t 21)⟩,
     ⟨(some 23), (some (20, false)), .bin .gtr (.t 22) (.c (.g (.int .i64 100)))⟩,
     ⟨(some 24), none, .pick (.t 20) (.c (.g (.bool true))) (.t 23)⟩]) <|
  .cond [1, 2, 3] (.t 24)
   (.seq (.reg [6] [⟨(some 25), none, .call (.c (.g (.fn 9))) []⟩,
       ⟨(some 6), none, .mov (.t 25)⟩]) <|
    .ret)
   (.skip)) <|
 .seq (.reg [1, 2, 7, 8] [⟨(some 27), none, .load true 13 (.t 3)⟩,
    ⟨(some 28), none, .call (.c (.g (.fn 10))) [(.t 27)]⟩,
    ⟨(some 26), none, .mov (.t 28)⟩,
    ⟨(some 29), none, .ext 0 (.t 26)⟩,
    ⟨(some 30), none, .ext 1 (.t 26)⟩,
    ⟨(some 7), none, .mov (.t 29)⟩,
    ⟨(some 8), none, .mov (.t 30)⟩]) <|
 .seq (.seq (.reg [1, 2, 7, 32] [⟨(some 31), none, .mov (.t 8)⟩,
     ⟨(some 32), none, .un .not (.t 31)⟩]) <|
  .cond [1, 2, 7] (.t 32)
   (.seq (.reg [6] [⟨(some 33), none, .call (.c (.g (.fn 9))) []⟩,
       ⟨(some 6), none, .mov (.t 33)⟩]) <|
    .ret)
   (.skip)) <|
 .seq (.reg [1, 2, 7, 10] [⟨(some 35), none, .mov (.t 7)⟩,
    ⟨(some 36), none, .call (.c (.g (.fn 21))) [(.t 35)]⟩,
    ⟨(some 34), none, .mov (.t 36)⟩,
    ⟨(some 37), none, .ext 0 (.t 34)⟩,
    ⟨(some 38), none, .ext 1 (.t 34)⟩,
    ⟨(some 9), none, .alloc [.z (.int .i64 0), .z (.int .i64 0), .z (.int .i64 0), .z (.int .i64 0), .z (.int .i64 0), .z (.int .i64 0), .z (.bool false), .s 6, .s 8]⟩,
    ⟨none, none, .store 9 (.t 9) (.t 37)⟩,
    ⟨(some 10), none, .mov (.t 38)⟩]) <|
 .seq (.reg [1, 2, 7, 10, 12] [⟨(some 40), none, .mov (.t 7)⟩,
    ⟨(some 41), none, .mov (.t 2)⟩,
    ⟨(some 42), none, .bin .add (.t 40) (.t 41)⟩,
    ⟨(some 43), none, .call (.c (.g (.fn 12))) [(.t 42)]⟩,
    ⟨(some 39), none, .mov (.t 43)⟩,
    ⟨(some 44), none, .ext 0 (.t 39)⟩,
    ⟨(some 45), none, .ext 1 (.t 39)⟩,
    ⟨(some 11), none, .alloc [.z (.int .i64 0), .z (.int .i64 0), .z (.int .i64 0), .z (.bool false), .z (.str []), .z (.str []), .z (.int .i64 0), .z (.int .i64 0), .z (.int .i64 0), .z (.int .i64 0), .s 5, .s 4, .s 4]⟩,
    ⟨none, none, .store 13 (.t 11) (.t 44)⟩,
    ⟨(some 12), none, .mov (.t 45)⟩]) <|
 .seq (.seq (.reg [1, 7, 52] [⟨(some 46), none, .mov (.t 10)⟩,
     ⟨(some 47), none, .mov (.t 46)⟩,
     ⟨(some 48), (some (47, false)), .mov (.t 12)⟩,
     ⟨(some 49), (some (47, false)), .mov (.t 2)⟩,
     ⟨(some 50), (some (47, false)), .bin .eql (.t 49) (.c (.g (.str [])))⟩,
     ⟨(some 51), (some (47, false)), .eqs true false [.b] (.t 48) (.t 50)⟩,
     ⟨(some 52), none, .pick (.t 47) (.c (.g (.bool true))) (.t 51)⟩]) <|
  .cond [1, 7] (.t 52)
   (.seq (.reg [6] [⟨(some 6), none, .mov (.c (.g (.bool false)))⟩]) <|
    .ret)
   (.skip)) <|
 .seq (.seq (.reg [1, 7, 60] [⟨(some 53), none, .mov (.t 1)⟩,
     ⟨(some 54), none, .bin .lss (.t 53) (.c (.g (.int .i64 0)))⟩,
     ⟨(some 55), none, .mov (.t 54)⟩,
     ⟨(some 56), (some (55, false)), .mov (.t 1)⟩,
     ⟨(some 57), (some (55, false)), .mov (.t 7)⟩,
     ⟨(some 58), (some (55, false)), .lenS (.t 57)⟩,
     ⟨(some 59), (some (55, false)), .bin .geq (.t 56) (.t 58)⟩,
     ⟨(some 60), none, .pick (.t 55) (.c (.g (.bool true))) (.t 59)⟩]) <|
  .cond [1, 7] (.t 60)
   (.seq (.reg [6] [⟨(some 61), none, .call (.c (.g (.fn 9))) []⟩,
       ⟨(some 6), none, .mov (.t 61)⟩]) <|
    .ret)
   (.skip)) <|
 .seq (.reg [1, 7, 14] [⟨(some 63), none, .mov (.t 7)⟩,
    ⟨(some 64), none, .mov (.t 1)⟩,
    ⟨(some 65), none, .slcS (.t 63) none (some (.t 64))⟩,
    ⟨(some 66), none, .call (.c (.g (.fn 12))) [(.t 65)]⟩,
    ⟨(some 62), none, .mov (.t 66)⟩,
    ⟨(some 67), none, .ext 0 (.t 62)⟩,
    ⟨(some 68), none, .ext 1 (.t 62)⟩,
    ⟨(some 13), none, .alloc [.z (.int .i64 0), .z (.int .i64 0), .z (.int .i64 0), .z (.bool false), .z (.str []), .z (.str []), .z (.int .i64 0), .z (.int .i64 0), .z (.int .i64 0), .z (.int .i64 0), .s 5, .s 4, .s 4]⟩,
    ⟨none, none, .store 13 (.t 13) (.t 67)⟩,
    ⟨(some 14), none, .mov (.t 68)⟩]) <|
 .seq (.reg [14, 16] [⟨(some 70), none, .mov (.t 7)⟩,
    ⟨(some 71), none, .mov (.t 1)⟩,
    ⟨(some 72), none, .slcS (.t 70) none (some (.t 71))⟩,
    ⟨(some 73), none, .call (.c (.g (.fn 21))) [(.t 72)]⟩,
    ⟨(some 69), none, .mov (.t 73)⟩,
    ⟨(some 74), none, .ext 0 (.t 69)⟩,
    ⟨(some 75), none, .ext 1 (.t 69)⟩,
    ⟨(some 15), none, .alloc [.z (.int .i64 0), .z (.int .i64 0), .z (.int .i64 0), .z (.int .i64 0), .z (.int .i64 0), .z (.int .i64 0), .z (.bool false), .s 6, .s 8]⟩,
    ⟨none, none, .store 9 (.t 15) (.t 74)⟩,
    ⟨(some 16), none, .mov (.t 75)⟩]) <|
 .seq (.reg [6] [⟨(some 76), none, .mov (.t 14)⟩,
    ⟨(some 77), none, .un .not (.t 76)⟩,
    ⟨(some 78), none, .mov (.t 77)⟩,
    ⟨(some 79), (some (78, true)), .mov (.t 16)⟩,
    ⟨(some 80), (some (78, true)), .un .not (.t 79)⟩,
    ⟨(some 81), none, .pick (.t 78) (.t 80) (.c (.g (.bool false)))⟩,
    ⟨(some 82), none, .mov (.t 81)⟩,
    ⟨(some 83), (some (82, true)), .call (.c (.g (.fn 9))) []⟩,
    ⟨(some 84), none, .pick (.t 82) (.t 83) (.c (.g (.bool false)))⟩,
    ⟨(some 6), none, .mov (.t 84)⟩]) <|
 .ret⟩
def h7 : List (List Nat) := [[1, 2, 3], [1, 2, 3, 24], [1, 2, 3], [6], [1, 2, 7, 8], [1, 2, 7, 32], [1, 2, 7], [6], [1, 2, 7, 10], [1, 2, 7, 10, 12], [1, 7, 52], [1, 7], [6], [1, 7, 60], [1, 7], [6], [1, 7, 14], [14, 16], [6]]
theorem c7 : cFunc Try.prog 7 false h7 = some F7 := by kernel_rfl

/-- baton/batonref03.Short -/
def L8_0 : IC :=
 .seq (.seq (.reg [1, 3, 40] [⟨(some 35), none, .mov (.t 3)⟩,
     ⟨(some 36), none, .faddr 10 (.t 1)⟩,
     ⟨(some 37), none, .faddr 0 (.t 36)⟩,
     ⟨(some 38), none, .load false 1 (.t 37)⟩,
     ⟨(some 39), none, .len (.t 38)⟩,
     ⟨(some 40), none, .bin .lss (.t 35) (.t 39)⟩]) <|
  .cond [1, 3] (.t 40)
   (.skip)
   (.exit 0)) <|
 .seq (.block [1, 3] 1 <|
  .seq (.reg [1, 3, 62] [⟨(some 43), none, .faddr 10 (.t 1)⟩,
     ⟨(some 44), none, .faddr 0 (.t 43)⟩,
     ⟨(some 45), none, .load false 1 (.t 44)⟩,
     ⟨(some 46), none, .mov (.t 3)⟩,
     ⟨(some 47), none, .iaddr 5 (.t 45) (.t 46)⟩,
     ⟨(some 48), none, .faddr 0 (.t 47)⟩,
     ⟨(some 49), none, .load false 1 (.t 48)⟩,
     ⟨(some 50), none, .lenS (.t 49)⟩,
     ⟨(some 51), none, .bin .gtr (.t 50) (.c (.g (.int .i64 60)))⟩,
     ⟨(some 52), none, .mov (.t 51)⟩,
     ⟨(some 53), (some (52, false)), .faddr 10 (.t 1)⟩,
     ⟨(some 54), (some (52, false)), .faddr 0 (.t 53)⟩,
     ⟨(some 55), (some (52, false)), .load false 1 (.t 54)⟩,
     ⟨(some 56), (some (52, false)), .mov (.t 3)⟩,
     ⟨(some 57), (some (52, false)), .iaddr 5 (.t 55) (.t 56)⟩,
     ⟨(some 58), (some (52, false)), .faddr 4 (.t 57)⟩,
     ⟨(some 59), (some (52, false)), .load false 1 (.t 58)⟩,
     ⟨(some 60), (some (52, false)), .lenS (.t 59)⟩,
     ⟨(some 61), (some (52, false)), .bin .gtr (.t 60) (.c (.g (.int .i64 60)))⟩,
     ⟨(some 62), none, .pick (.t 52) (.c (.g (.bool true))) (.t 61)⟩]) <|
  .cond [1, 3] (.t 62)
   (.seq (.reg [2] [⟨(some 2), none, .mov (.c (.g (.bool false)))⟩]) <|
    .ret)
   (.skip)) <|
 .reg [1, 3] [⟨(some 41), none, .mov (.t 3)⟩,
   ⟨(some 42), none, .bin .add (.t 41) (.c (.g (.int .i64 1)))⟩,
   ⟨(some 3), none, .mov (.t 42)⟩]
def F8 : IFunc := ⟨1, 73, [.tmp 2], false,
 .seq (.reg [1] [⟨(some 1), none, .box (.t 0)⟩,
    ⟨(some 2), none, .mov (.c (.g (.bool false)))⟩]) <|
 .seq (.seq (.reg [1, 34] [⟨(some 4), none, .faddr 4 (.t 1)⟩,
     ⟨(some 5), none, .load false 1 (.t 4)⟩,
     ⟨(some 6), none, .lenS (.t 5)⟩,
     ⟨(some 7), none, .bin .gtr (.t 6) (.c (.g (.int .i64 60)))⟩,
     ⟨(some 8), none, .mov (.t 7)⟩,
     ⟨(some 9), (some (8, false)), .faddr 5 (.t 1)⟩,
     ⟨(some 10), (some (8, false)), .load false 1 (.t 9)⟩,
     ⟨(some 11), (some (8, false)), .lenS (.t 10)⟩,
     ⟨(some 12), (some (8, false)), .bin .gtr (.t 11) (.c (.g (.int .i64 60)))⟩,
     ⟨(some 13), none, .pick (.t 8) (.c (.g (.bool true))) (.t 12)⟩,
     ⟨(some 14), none, .mov (.t 13)⟩,
     ⟨(some 15), (some (14, false)), .faddr 10 (.t 1)⟩,
     ⟨(some 16), (some (14, false)), .faddr 0 (.t 15)⟩,
     ⟨(some 17), (some (14, false)), .load false 1 (.t 16)⟩,
     ⟨(some 18), (some (14, false)), .len (.t 17)⟩,
     ⟨(some 19), (some (14, false)), .bin .gtr (.t 18) (.c (.g (.int .i64 8)))⟩,
     ⟨(some 20), none, .pick (.t 14) (.c (.g (.bool true))) (.t 19)⟩,
     ⟨(some 21), none, .mov (.t 20)⟩,
     ⟨(some 22), (some (21, false)), .faddr 10 (.t 1)⟩,
     ⟨(some 23), (some (21, false)), .faddr 1 (.t 22)⟩,
     ⟨(some 24), (some (21, false)), .load false 1 (.t 23)⟩,
     ⟨(some 25), (some (21, false)), .len (.t 24)⟩,
     ⟨(some 26), (some (21, false)), .bin .gtr (.t 25) (.c (.g (.int .i64 8)))⟩,
     ⟨(some 27), none, .pick (.t 21) (.c (.g (.bool true))) (.t 26)⟩,
     ⟨(some 28), none, .mov (.t 27)⟩,
     ⟨(some 29), (some (28, false)), .faddr 10 (.t 1)⟩,
     ⟨(some 30), (some (28, false)), .faddr 2 (.t 29)⟩,
     ⟨(some 31), (some (28, false)), .load false 1 (.t 30)⟩,
     ⟨(some 32), (some (28, false)), .len (.t 31)⟩,
     ⟨(some 33), (some (28, false)), .bin .gtr (.t 32) (.c (.g (.int .i64 8)))⟩,
     ⟨(some 34), none, .pick (.t 28) (.c (.g (.bool true))) (.t 33)⟩]) <|
  .cond [1] (.t 34)
   (.seq (.reg [2] [⟨(some 2), none, .mov (.c (.g (.bool false)))⟩]) <|
    .ret)
   (.skip)) <|
 .seq (.seq (.reg [1, 3] [⟨(some 3), none, .mov (.c (.g (.int .i64 0)))⟩]) <|
  .block [1] 0 <|
  .loop [1, 3] [] L8_0) <|
 .seq (.reg [2] [⟨(some 63), none, .faddr 10 (.t 1)⟩,
    ⟨(some 64), none, .faddr 1 (.t 63)⟩,
    ⟨(some 65), none, .load false 1 (.t 64)⟩,
    ⟨(some 66), none, .call (.c (.g (.fn 26))) [(.t 65)]⟩,
    ⟨(some 67), none, .mov (.t 66)⟩,
    ⟨(some 68), (some (67, true)), .faddr 10 (.t 1)⟩,
    ⟨(some 69), (some (67, true)), .faddr 2 (.t 68)⟩,
    ⟨(some 70), (some (67, true)), .load false 1 (.t 69)⟩,
    ⟨(some 71), (some (67, true)), .call (.c (.g (.fn 26))) [(.t 70)]⟩,
    ⟨(some 72), none, .pick (.t 67) (.t 71) (.c (.g (.bool false)))⟩,
    ⟨(some 2), none, .mov (.t 72)⟩]) <|
 .ret⟩
def h8 : List (List Nat) := [[1], [1, 34], [1], [2], [1, 3], [1], [1, 3], [1, 3, 40], [1, 3], [1, 3], [1, 3, 62], [1, 3], [2], [1, 3], [2]]
theorem c8 : cFunc Try.prog 8 false h8 = some F8 := by kernel_rfl

/-- baton/batonlaw03.live -/
def F9 : IFunc := ⟨0, 117, [.tmp 0], false,
 .seq (.reg [] [⟨(some 0), none, .mov (.c (.g (.bool false)))⟩]) <|
 .seq (.reg [1] [⟨(some 16), none, .build [.g (.int .i64 0), .g (.int .i64 0), .g (.int .i64 0), .g (.bool false), .g (.str []), .g (.str []), .g (.int .i64 0), .g (.int .i64 0), .g (.int .i64 0), .g (.int .i64 0), .g (.nsl), .g (.nsl), .g (.nsl)] [(0, 1, (.c (.g (.int .i64 1)))), (2, 1, (.c (.g (.int .i64 1)))), (4, 1, (.c (.g (.str [97]))))]⟩,
    ⟨(some 1), none, .alloc [.z (.int .i64 0), .z (.int .i64 0), .z (.int .i64 0), .z (.bool false), .z (.str []), .z (.str []), .z (.int .i64 0), .z (.int .i64 0), .z (.int .i64 0), .z (.int .i64 0), .s 5, .s 4, .s 4]⟩,
    ⟨none, none, .store 13 (.t 1) (.t 16)⟩]) <|
 .seq (.reg [1, 2, 3] [⟨(some 18), none, .load true 13 (.t 1)⟩,
    ⟨(some 19), none, .call (.c (.g (.fn 10))) [(.t 18)]⟩,
    ⟨(some 17), none, .mov (.t 19)⟩,
    ⟨(some 20), none, .ext 0 (.t 17)⟩,
    ⟨(some 21), none, .ext 1 (.t 17)⟩,
    ⟨(some 2), none, .mov (.t 20)⟩,
    ⟨(some 3), none, .mov (.t 21)⟩]) <|
 .seq (.reg [1, 2, 3, 4, 5] [⟨(some 23), none, .mov (.t 2)⟩,
    ⟨(some 24), none, .call (.c (.g (.fn 12))) [(.t 23)]⟩,
    ⟨(some 22), none, .mov (.t 24)⟩,
    ⟨(some 25), none, .ext 0 (.t 22)⟩,
    ⟨(some 26), none, .ext 1 (.t 22)⟩,
    ⟨(some 4), none, .alloc [.z (.int .i64 0), .z (.int .i64 0), .z (.int .i64 0), .z (.bool false), .z (.str []), .z (.str []), .z (.int .i64 0), .z (.int .i64 0), .z (.int .i64 0), .z (.int .i64 0), .s 5, .s 4, .s 4]⟩,
    ⟨none, none, .store 13 (.t 4) (.t 25)⟩,
    ⟨(some 5), none, .mov (.t 26)⟩]) <|
 .seq (.reg [1, 2, 3, 4, 5, 7] [⟨(some 28), none, .mov (.t 2)⟩,
    ⟨(some 29), none, .bin .add (.t 28) (.c (.g (.str [0])))⟩,
    ⟨(some 30), none, .call (.c (.g (.fn 12))) [(.t 29)]⟩,
    ⟨(some 27), none, .mov (.t 30)⟩,
    ⟨(some 31), none, .ext 0 (.t 27)⟩,
    ⟨(some 32), none, .ext 1 (.t 27)⟩,
    ⟨(some 6), none, .alloc [.z (.int .i64 0), .z (.int .i64 0), .z (.int .i64 0), .z (.bool false), .z (.str []), .z (.str []), .z (.int .i64 0), .z (.int .i64 0), .z (.int .i64 0), .z (.int .i64 0), .s 5, .s 4, .s 4]⟩,
    ⟨none, none, .store 13 (.t 6) (.t 31)⟩,
    ⟨(some 7), none, .mov (.t 32)⟩]) <|
 .seq (.reg [1, 2, 3, 4, 5, 7, 9] [⟨(some 34), none, .build [.g (.int .i64 0), .g (.int .i64 0), .g (.int .i64 0), .g (.bool false), .g (.str []), .g (.str []), .g (.int .i64 0), .g (.int .i64 0), .g (.int .i64 0), .g (.int .i64 0), .g (.nsl), .g (.nsl), .g (.nsl)] [(0, 1, (.c (.g (.int .i64 9))))]⟩,
    ⟨(some 35), none, .call (.c (.g (.fn 10))) [(.t 34)]⟩,
    ⟨(some 33), none, .mov (.t 35)⟩,
    ⟨(some 36), none, .ext 0 (.t 33)⟩,
    ⟨(some 37), none, .ext 1 (.t 33)⟩,
    ⟨(some 8), none, .mov (.t 36)⟩,
    ⟨(some 9), none, .mov (.t 37)⟩]) <|
 .seq (.reg [1, 2, 3, 4, 5, 7, 9, 10, 11] [⟨(some 39), none, .build [.g (.str []), .g (.str []), .g (.int .i64 0), .g (.int .i64 0), .g (.int .i64 0), .g (.int .i64 0)] [(0, 1, (.c (.g (.str [107])))), (2, 1, (.c (.g (.int .i64 300))))]⟩,
    ⟨(some 40), none, .bslice 6 1 [.str [], .str [], .int .i64 0, .int .i64 0, .int .i64 0, .int .i64 0] [(0, 6, (.t 39))]⟩,
    ⟨(some 41), none, .build [.g (.int .i64 0), .g (.int .i64 0), .g (.int .i64 0), .g (.int .i64 0), .g (.int .i64 0), .g (.int .i64 0), .g (.bool false), .g (.nsl), .g (.nsl)] [(0, 1, (.c (.g (.int .i64 7)))), (6, 1, (.c (.g (.bool true)))), (7, 1, (.t 40))]⟩,
    ⟨(some 42), none, .call (.c (.g (.fn 19))) [(.t 41)]⟩,
    ⟨(some 38), none, .mov (.t 42)⟩,
    ⟨(some 43), none, .ext 0 (.t 38)⟩,
    ⟨(some 44), none, .ext 1 (.t 38)⟩,
    ⟨(some 10), none, .mov (.t 43)⟩,
    ⟨(some 11), none, .mov (.t 44)⟩]) <|
 .seq (.reg [1, 2, 3, 4, 5, 7, 9, 10, 11, 12, 13] [⟨(some 46), none, .mov (.t 10)⟩,
    ⟨(some 47), none, .call (.c (.g (.fn 21))) [(.t 46)]⟩,
    ⟨(some 45), none, .mov (.t 47)⟩,
    ⟨(some 48), none, .ext 0 (.t 45)⟩,
    ⟨(some 49), none, .ext 1 (.t 45)⟩,
    ⟨(some 12), none, .alloc [.z (.int .i64 0), .z (.int .i64 0), .z (.int .i64 0), .z (.int .i64 0), .z (.int .i64 0), .z (.int .i64 0), .z (.bool false), .s 6, .s 8]⟩,
    ⟨none, none, .store 9 (.t 12) (.t 48)⟩,
    ⟨(some 13), none, .mov (.t 49)⟩]) <|
 .seq (.reg [1, 2, 3, 4, 5, 7, 9, 10, 11, 12, 13, 15] [⟨(some 51), none, .mov (.t 2)⟩,
    ⟨(some 52), none, .call (.c (.g (.fn 21))) [(.t 51)]⟩,
    ⟨(some 50), none, .mov (.t 52)⟩,
    ⟨(some 53), none, .ext 0 (.t 50)⟩,
    ⟨(some 54), none, .ext 1 (.t 50)⟩,
    ⟨(some 14), none, .alloc [.z (.int .i64 0), .z (.int .i64 0), .z (.int .i64 0), .z (.int .i64 0), .z (.int .i64 0), .z (.int .i64 0), .z (.bool false), .s 6, .s 8]⟩,
    ⟨none, none, .store 9 (.t 14) (.t 53)⟩,
    ⟨(some 15), none, .mov (.t 54)⟩]) <|
 .seq (.reg [0] [⟨(some 55), none, .mov (.t 2)⟩,
    ⟨(some 56), none, .bin .eql (.t 55) (.c (.g (.str [1, 1, 0, 1, 0, 1, 97, 0, 0, 0, 0, 0, 0, 0, 0])))⟩,
    ⟨(some 57), none, .mov (.t 56)⟩,
    ⟨(some 58), (some (57, true)), .mov (.t 3)⟩,
    ⟨(some 59), none, .pick (.t 57) (.t 58) (.c (.g (.bool false)))⟩,
    ⟨(some 60), none, .mov (.t 59)⟩,
    ⟨(some 61), (some (60, true)), .mov (.t 5)⟩,
    ⟨(some 62), none, .pick (.t 60) (.t 61) (.c (.g (.bool false)))⟩,
    ⟨(some 63), none, .mov (.t 62)⟩,
    ⟨(some 64), (some (63, true)), .load true 13 (.t 4)⟩,
    ⟨(some 65), (some (63, true)), .load true 13 (.t 1)⟩,
    ⟨(some 66), (some (63, true)), .call (.c (.g (.fn 16))) [(.t 64), (.t 65)]⟩,
    ⟨(some 67), none, .pick (.t 63) (.t 66) (.c (.g (.bool false)))⟩,
    ⟨(some 68), none, .mov (.t 67)⟩,
    ⟨(some 69), (some (68, true)), .mov (.t 7)⟩,
    ⟨(some 70), (some (68, true)), .un .not (.t 69)⟩,
    ⟨(some 71), none, .pick (.t 68) (.t 70) (.c (.g (.bool false)))⟩,
    ⟨(some 72), none, .mov (.t 71)⟩,
    ⟨(some 73), (some (72, true)), .mov (.t 9)⟩,
    ⟨(some 74), (some (72, true)), .un .not (.t 73)⟩,
    ⟨(some 75), none, .pick (.t 72) (.t 74) (.c (.g (.bool false)))⟩,
    ⟨(some 76), none, .mov (.t 75)⟩,
    ⟨(some 77), (some (76, true)), .mov (.t 10)⟩,
    ⟨(some 78), (some (76, true)), .bin .eql (.t 77) (.c (.g (.str [2, 7, 0, 0, 0, 0, 0, 1, 1, 1, 107, 0, 172, 2, 0, 0, 0, 0])))⟩,
    ⟨(some 79), none, .pick (.t 76) (.t 78) (.c (.g (.bool false)))⟩,
    ⟨(some 80), none, .mov (.t 79)⟩,
    ⟨(some 81), (some (80, true)), .mov (.t 11)⟩,
    ⟨(some 82), none, .pick (.t 80) (.t 81) (.c (.g (.bool false)))⟩,
    ⟨(some 83), none, .mov (.t 82)⟩,
    ⟨(some 84), (some (83, true)), .mov (.t 13)⟩,
    ⟨(some 85), none, .pick (.t 83) (.t 84) (.c (.g (.bool false)))⟩,
    ⟨(some 86), none, .mov (.t 85)⟩,
    ⟨(some 87), (some (86, true)), .faddr 7 (.t 12)⟩,
    ⟨(some 88), (some (86, true)), .load false 1 (.t 87)⟩,
    ⟨(some 89), (some (86, true)), .len (.t 88)⟩,
    ⟨(some 90), (some (86, true)), .bin .eql (.t 89) (.c (.g (.int .i64 1)))⟩,
    ⟨(some 91), none, .pick (.t 86) (.t 90) (.c (.g (.bool false)))⟩,
    ⟨(some 92), none, .mov (.t 91)⟩,
    ⟨(some 93), (some (92, true)), .faddr 7 (.t 12)⟩,
    ⟨(some 94), (some (92, true)), .load false 1 (.t 93)⟩,
    ⟨(some 95), (some (92, true)), .iaddr 6 (.t 94) (.c (.g (.int .i64 0)))⟩,
    ⟨(some 96), (some (92, true)), .faddr 2 (.t 95)⟩,
    ⟨(some 97), (some (92, true)), .load false 1 (.t 96)⟩,
    ⟨(some 98), (some (92, true)), .bin .eql (.t 97) (.c (.g (.int .i64 300)))⟩,
    ⟨(some 99), none, .pick (.t 92) (.t 98) (.c (.g (.bool false)))⟩,
    ⟨(some 100), none, .mov (.t 99)⟩,
    ⟨(some 101), (some (100, true)), .mov (.t 15)⟩,
    ⟨(some 102), (some (100, true)), .un .not (.t 101)⟩,
    ⟨(some 103), none, .pick (.t 100) (.t 102) (.c (.g (.bool false)))⟩,
    ⟨(some 104), none, .mov (.t 103)⟩,
    ⟨(some 105), (some (104, true)), .load true 13 (.t 1)⟩,
    ⟨(some 106), (some (104, true)), .call (.c (.g (.fn 14))) [(.t 105)]⟩,
    ⟨(some 107), none, .pick (.t 104) (.t 106) (.c (.g (.bool false)))⟩,
    ⟨(some 108), none, .mov (.t 107)⟩,
    ⟨(some 109), (some (108, true)), .build [.g (.int .i64 0), .g (.int .i64 0), .g (.int .i64 0), .g (.bool false), .g (.str []), .g (.str []), .g (.int .i64 0), .g (.int .i64 0), .g (.int .i64 0), .g (.int .i64 0), .g (.nsl), .g (.nsl), .g (.nsl)] []⟩,
    ⟨(some 110), (some (108, true)), .call (.c (.g (.fn 14))) [(.t 109)]⟩,
    ⟨(some 111), (some (108, true)), .un .not (.t 110)⟩,
    ⟨(some 112), none, .pick (.t 108) (.t 111) (.c (.g (.bool false)))⟩,
    ⟨(some 113), none, .mov (.t 112)⟩,
    ⟨(some 114), (some (113, true)), .load true 9 (.t 12)⟩,
    ⟨(some 115), (some (113, true)), .call (.c (.g (.fn 23))) [(.t 114)]⟩,
    ⟨(some 116), none, .pick (.t 113) (.t 115) (.c (.g (.bool false)))⟩,
    ⟨(some 0), none, .mov (.t 116)⟩]) <|
 .ret⟩
def h9 : List (List Nat) := [[], [1], [1, 2, 3], [1, 2, 3, 4, 5], [1, 2, 3, 4, 5, 7], [1, 2, 3, 4, 5, 7, 9], [1, 2, 3, 4, 5, 7, 9, 10, 11], [1, 2, 3, 4, 5, 7, 9, 10, 11, 12, 13], [1, 2, 3, 4, 5, 7, 9, 10, 11, 12, 13, 15], [0]]
theorem c9 : cFunc Try.prog 9 false h9 = some F9 := by kernel_rfl

/-- baton/wire.Ask -/
def L10_0 : IC :=
 .seq (.reg [1, 4, 43, 44, 45, 46] [⟨(some 46), none, .bin .lss (.t 45) (.t 44)⟩]) <|
 .seq (.cond [1, 4, 43, 44, 45] (.t 46)
   (.skip)
   (.exit 0)) <|
 .seq (.block [1, 4, 43, 44, 45] 1 <|
  .seq (.reg [1, 4, 6, 43, 44, 45] [⟨(some 47), none, .iaddr 5 (.t 43) (.t 45)⟩,
     ⟨(some 48), none, .load true 5 (.t 47)⟩,
     ⟨(some 6), none, .alloc [.z (.str []), .z (.int .i64 0), .z (.int .i64 0), .z (.int .i64 0), .z (.str [])]⟩,
     ⟨none, none, .store 5 (.t 6) (.t 48)⟩]) <|
  .seq (.reg [1, 4, 6, 43, 44, 45] [⟨(some 49), none, .faddr 0 (.t 6)⟩,
     ⟨(some 50), none, .load false 1 (.t 49)⟩,
     ⟨(some 51), none, .bslice 1 1 [.str []] [(0, 1, (.t 50))]⟩,
     ⟨(some 52), none, .call (.c (.g (.fn 29))) [(.t 4), (.t 51)]⟩]) <|
  .seq (.reg [1, 4, 6, 43, 44, 45] [⟨(some 53), none, .faddr 1 (.t 6)⟩,
     ⟨(some 54), none, .load false 1 (.t 53)⟩,
     ⟨(some 55), none, .faddr 2 (.t 6)⟩,
     ⟨(some 56), none, .load false 1 (.t 55)⟩,
     ⟨(some 57), none, .faddr 3 (.t 6)⟩,
     ⟨(some 58), none, .load false 1 (.t 57)⟩,
     ⟨(some 59), none, .bslice 1 3 [.int .i64 0] [(0, 1, (.t 54)), (1, 1, (.t 56)), (2, 1, (.t 58))]⟩,
     ⟨(some 60), none, .call (.c (.g (.fn 27))) [(.t 4), (.t 59)]⟩]) <|
  .reg [1, 4, 43, 44, 45] [⟨(some 61), none, .faddr 4 (.t 6)⟩,
    ⟨(some 62), none, .load false 1 (.t 61)⟩,
    ⟨(some 63), none, .bslice 1 1 [.str []] [(0, 1, (.t 62))]⟩,
    ⟨(some 64), none, .call (.c (.g (.fn 29))) [(.t 4), (.t 63)]⟩]) <|
 .reg [1, 4, 43, 44, 45] [⟨(some 65), none, .bin .add (.t 45) (.c (.g (.int .i64 1)))⟩,
   ⟨(some 45), none, .mov (.t 65)⟩]
def F10 : IFunc := ⟨1, 76, [.tmp 2, .tmp 3], false,
 .seq (.reg [1] [⟨(some 1), none, .box (.t 0)⟩,
    ⟨(some 2), none, .mov (.c (.g (.str [])))⟩,
    ⟨(some 3), none, .mov (.c (.g (.bool false)))⟩]) <|
 .seq (.seq (.reg [1, 9] [⟨(some 7), none, .load true 13 (.t 1)⟩,
     ⟨(some 8), none, .call (.c (.g (.fn 14))) [(.t 7)]⟩,
     ⟨(some 9), none, .un .not (.t 8)⟩]) <|
  .cond [1] (.t 9)
   (.seq (.reg [2, 3] [⟨(some 2), none, .mov (.c (.g (.str [])))⟩,
       ⟨(some 3), none, .mov (.c (.g (.bool false)))⟩]) <|
    .ret)
   (.skip)) <|
 .seq (.reg [1, 4] [⟨(some 4), none, .allocT 60 5 [.z (.nptr), .s 1]⟩]) <|
 .seq (.reg [1, 4] [⟨(some 10), none, .faddr 0 (.t 1)⟩,
    ⟨(some 11), none, .load false 1 (.t 10)⟩,
    ⟨(some 12), none, .faddr 1 (.t 1)⟩,
    ⟨(some 13), none, .load false 1 (.t 12)⟩,
    ⟨(some 14), none, .faddr 2 (.t 1)⟩,
    ⟨(some 15), none, .load false 1 (.t 14)⟩,
    ⟨(some 16), none, .bslice 1 4 [.int .i64 0] [(0, 1, (.c (.g (.int .i64 1)))), (1, 1, (.t 11)), (2, 1, (.t 13)), (3, 1, (.t 15))]⟩,
    ⟨(some 17), none, .call (.c (.g (.fn 27))) [(.t 4), (.t 16)]⟩]) <|
 .seq (.reg [1, 4] [⟨(some 18), none, .faddr 3 (.t 1)⟩,
    ⟨(some 19), none, .load false 1 (.t 18)⟩,
    ⟨(some 20), none, .call (.c (.g (.fn 28))) [(.t 4), (.t 19)]⟩]) <|
 .seq (.reg [1, 4] [⟨(some 21), none, .faddr 4 (.t 1)⟩,
    ⟨(some 22), none, .load false 1 (.t 21)⟩,
    ⟨(some 23), none, .faddr 5 (.t 1)⟩,
    ⟨(some 24), none, .load false 1 (.t 23)⟩,
    ⟨(some 25), none, .bslice 1 2 [.str []] [(0, 1, (.t 22)), (1, 1, (.t 24))]⟩,
    ⟨(some 26), none, .call (.c (.g (.fn 29))) [(.t 4), (.t 25)]⟩]) <|
 .seq (.reg [1, 4] [⟨(some 27), none, .faddr 6 (.t 1)⟩,
    ⟨(some 28), none, .load false 1 (.t 27)⟩,
    ⟨(some 29), none, .faddr 7 (.t 1)⟩,
    ⟨(some 30), none, .load false 1 (.t 29)⟩,
    ⟨(some 31), none, .faddr 8 (.t 1)⟩,
    ⟨(some 32), none, .load false 1 (.t 31)⟩,
    ⟨(some 33), none, .faddr 9 (.t 1)⟩,
    ⟨(some 34), none, .load false 1 (.t 33)⟩,
    ⟨(some 35), none, .faddr 10 (.t 1)⟩,
    ⟨(some 36), none, .faddr 0 (.t 35)⟩,
    ⟨(some 37), none, .load false 1 (.t 36)⟩,
    ⟨(some 38), none, .len (.t 37)⟩,
    ⟨(some 39), none, .bslice 1 5 [.int .i64 0] [(0, 1, (.t 28)), (1, 1, (.t 30)), (2, 1, (.t 32)), (3, 1, (.t 34)), (4, 1, (.t 38))]⟩,
    ⟨(some 40), none, .call (.c (.g (.fn 27))) [(.t 4), (.t 39)]⟩]) <|
 .seq (.seq (.reg [1, 4, 43, 44, 45] [⟨(some 41), none, .faddr 10 (.t 1)⟩,
     ⟨(some 42), none, .faddr 0 (.t 41)⟩,
     ⟨(some 43), none, .load false 1 (.t 42)⟩,
     ⟨(some 44), none, .len (.t 43)⟩,
     ⟨(some 45), none, .mov (.c (.g (.int .i64 0)))⟩]) <|
  .block [1, 4] 0 <|
  .loop [1, 4, 43, 44, 45] [] L10_0) <|
 .seq (.reg [1, 4] [⟨(some 66), none, .faddr 10 (.t 1)⟩,
    ⟨(some 67), none, .faddr 1 (.t 66)⟩,
    ⟨(some 68), none, .load false 1 (.t 67)⟩,
    ⟨(some 69), none, .call (.c (.g (.fn 30))) [(.t 4), (.t 68)]⟩]) <|
 .seq (.reg [4] [⟨(some 70), none, .faddr 10 (.t 1)⟩,
    ⟨(some 71), none, .faddr 2 (.t 70)⟩,
    ⟨(some 72), none, .load false 1 (.t 71)⟩,
    ⟨(some 73), none, .call (.c (.g (.fn 30))) [(.t 4), (.t 72)]⟩]) <|
 .seq (.reg [2, 3] [⟨(some 74), none, .faddr 0 (.t 4)⟩,
    ⟨(some 75), none, .call (.c (.g (.fn 31))) [(.t 74)]⟩,
    ⟨(some 2), none, .mov (.t 75)⟩,
    ⟨(some 3), none, .mov (.c (.g (.bool true)))⟩]) <|
 .ret⟩
def h10 : List (List Nat) := [[1], [1, 9], [1], [2, 3], [1, 4], [1, 4], [1, 4], [1, 4], [1, 4], [1, 4, 43, 44, 45], [1, 4], [1, 4, 43, 44, 45], [1, 4, 43, 44, 45, 46], [1, 4, 43, 44, 45], [1, 4, 43, 44, 45], [1, 4, 6, 43, 44, 45], [1, 4, 6, 43, 44, 45], [1, 4, 6, 43, 44, 45], [1, 4, 43, 44, 45], [1, 4, 43, 44, 45], [1, 4], [4], [2, 3]]
theorem c10 : cFunc Try.prog 10 false h10 = some F10 := by kernel_rfl

/-- baton/batonref03.Ask -/
def L11_0 : IC :=
 .seq (.seq (.reg [1, 4, 5, 61] [⟨(some 56), none, .mov (.t 5)⟩,
     ⟨(some 57), none, .faddr 10 (.t 1)⟩,
     ⟨(some 58), none, .faddr 0 (.t 57)⟩,
     ⟨(some 59), none, .load false 1 (.t 58)⟩,
     ⟨(some 60), none, .len (.t 59)⟩,
     ⟨(some 61), none, .bin .lss (.t 56) (.t 60)⟩]) <|
  .cond [1, 4, 5] (.t 61)
   (.skip)
   (.exit 0)) <|
 .seq (.block [1, 4, 5] 1 <|
  .seq (.reg [1, 4, 5, 6] [⟨(some 64), none, .faddr 10 (.t 1)⟩,
     ⟨(some 65), none, .faddr 0 (.t 64)⟩,
     ⟨(some 66), none, .load false 1 (.t 65)⟩,
     ⟨(some 67), none, .mov (.t 5)⟩,
     ⟨(some 68), none, .iaddr 5 (.t 66) (.t 67)⟩,
     ⟨(some 69), none, .load true 5 (.t 68)⟩,
     ⟨(some 6), none, .alloc [.z (.str []), .z (.int .i64 0), .z (.int .i64 0), .z (.int .i64 0), .z (.str [])]⟩,
     ⟨none, none, .store 5 (.t 6) (.t 69)⟩]) <|
  .drw [1, 4, 5] 0 <|
  .take ⟨(some 70), none, .mov (.t 4)⟩ <|
  .take ⟨(some 71), none, .faddr 0 (.t 6)⟩ <|
  .take ⟨(some 72), none, .load false 1 (.t 71)⟩ <|
  .take ⟨(some 75), none, .faddr 1 (.t 6)⟩ <|
  .take ⟨(some 76), none, .load false 1 (.t 75)⟩ <|
  .take ⟨(some 79), none, .faddr 2 (.t 6)⟩ <|
  .take ⟨(some 80), none, .load false 1 (.t 79)⟩ <|
  .take ⟨(some 83), none, .faddr 3 (.t 6)⟩ <|
  .take ⟨(some 84), none, .load false 1 (.t 83)⟩ <|
  .take ⟨(some 87), none, .faddr 4 (.t 6)⟩ <|
  .take ⟨(some 88), none, .load false 1 (.t 87)⟩ <|
  .one ⟨(some 73), none, .call (.c (.g (.fn 34))) [(.t 72)]⟩ <|
  .take ⟨(some 74), none, .bin .add (.t 70) (.t 73)⟩ <|
  .one ⟨(some 77), none, .call (.c (.g (.fn 32))) [(.t 76)]⟩ <|
  .take ⟨(some 78), none, .bin .add (.t 74) (.t 77)⟩ <|
  .one ⟨(some 81), none, .call (.c (.g (.fn 32))) [(.t 80)]⟩ <|
  .take ⟨(some 82), none, .bin .add (.t 78) (.t 81)⟩ <|
  .one ⟨(some 85), none, .call (.c (.g (.fn 32))) [(.t 84)]⟩ <|
  .take ⟨(some 86), none, .bin .add (.t 82) (.t 85)⟩ <|
  .one ⟨(some 89), none, .call (.c (.g (.fn 34))) [(.t 88)]⟩ <|
  .take ⟨(some 90), none, .bin .add (.t 86) (.t 89)⟩ <|
  .free <|
  .take ⟨(some 4), none, .mov (.t 90)⟩ <|
  .leaf) <|
 .reg [1, 4, 5] [⟨(some 62), none, .mov (.t 5)⟩,
   ⟨(some 63), none, .bin .add (.t 62) (.c (.g (.int .i64 1)))⟩,
   ⟨(some 5), none, .mov (.t 63)⟩]
def F11 : IFunc := ⟨1, 102, [.tmp 2, .tmp 3], false,
 .seq (.reg [1] [⟨(some 1), none, .box (.t 0)⟩,
    ⟨(some 2), none, .mov (.c (.g (.str [])))⟩,
    ⟨(some 3), none, .mov (.c (.g (.bool false)))⟩]) <|
 .seq (.seq (.reg [1, 9] [⟨(some 7), none, .load true 13 (.t 1)⟩,
     ⟨(some 8), none, .call (.c (.g (.fn 15))) [(.t 7)]⟩,
     ⟨(some 9), none, .un .not (.t 8)⟩]) <|
  .cond [1] (.t 9)
   (.seq (.reg [2, 3] [⟨(some 2), none, .mov (.c (.g (.str [])))⟩,
       ⟨(some 3), none, .mov (.c (.g (.bool false)))⟩]) <|
    .ret)
   (.skip)) <|
 .seq (.drw [1, 4] 0 <|
  .take ⟨(some 10), none, .faddr 0 (.t 1)⟩ <|
  .take ⟨(some 11), none, .load false 1 (.t 10)⟩ <|
  .take ⟨(some 14), none, .faddr 1 (.t 1)⟩ <|
  .take ⟨(some 15), none, .load false 1 (.t 14)⟩ <|
  .take ⟨(some 18), none, .faddr 2 (.t 1)⟩ <|
  .take ⟨(some 19), none, .load false 1 (.t 18)⟩ <|
  .take ⟨(some 22), none, .faddr 3 (.t 1)⟩ <|
  .take ⟨(some 23), none, .load false 1 (.t 22)⟩ <|
  .take ⟨(some 26), none, .faddr 4 (.t 1)⟩ <|
  .take ⟨(some 27), none, .load false 1 (.t 26)⟩ <|
  .take ⟨(some 30), none, .faddr 5 (.t 1)⟩ <|
  .take ⟨(some 31), none, .load false 1 (.t 30)⟩ <|
  .take ⟨(some 34), none, .faddr 6 (.t 1)⟩ <|
  .take ⟨(some 35), none, .load false 1 (.t 34)⟩ <|
  .take ⟨(some 38), none, .faddr 7 (.t 1)⟩ <|
  .take ⟨(some 39), none, .load false 1 (.t 38)⟩ <|
  .take ⟨(some 42), none, .faddr 8 (.t 1)⟩ <|
  .take ⟨(some 43), none, .load false 1 (.t 42)⟩ <|
  .take ⟨(some 46), none, .faddr 9 (.t 1)⟩ <|
  .take ⟨(some 47), none, .load false 1 (.t 46)⟩ <|
  .take ⟨(some 50), none, .faddr 10 (.t 1)⟩ <|
  .take ⟨(some 51), none, .faddr 0 (.t 50)⟩ <|
  .take ⟨(some 52), none, .load false 1 (.t 51)⟩ <|
  .take ⟨(some 53), none, .len (.t 52)⟩ <|
  .one ⟨(some 12), none, .call (.c (.g (.fn 32))) [(.t 11)]⟩ <|
  .take ⟨(some 13), none, .bin .add (.c (.g (.str [1]))) (.t 12)⟩ <|
  .one ⟨(some 16), none, .call (.c (.g (.fn 32))) [(.t 15)]⟩ <|
  .take ⟨(some 17), none, .bin .add (.t 13) (.t 16)⟩ <|
  .one ⟨(some 20), none, .call (.c (.g (.fn 32))) [(.t 19)]⟩ <|
  .take ⟨(some 21), none, .bin .add (.t 17) (.t 20)⟩ <|
  .one ⟨(some 24), none, .call (.c (.g (.fn 33))) [(.t 23)]⟩ <|
  .take ⟨(some 25), none, .bin .add (.t 21) (.t 24)⟩ <|
  .one ⟨(some 28), none, .call (.c (.g (.fn 34))) [(.t 27)]⟩ <|
  .take ⟨(some 29), none, .bin .add (.t 25) (.t 28)⟩ <|
  .one ⟨(some 32), none, .call (.c (.g (.fn 34))) [(.t 31)]⟩ <|
  .take ⟨(some 33), none, .bin .add (.t 29) (.t 32)⟩ <|
  .one ⟨(some 36), none, .call (.c (.g (.fn 32))) [(.t 35)]⟩ <|
  .take ⟨(some 37), none, .bin .add (.t 33) (.t 36)⟩ <|
  .one ⟨(some 40), none, .call (.c (.g (.fn 32))) [(.t 39)]⟩ <|
  .take ⟨(some 41), none, .bin .add (.t 37) (.t 40)⟩ <|
  .one ⟨(some 44), none, .call (.c (.g (.fn 32))) [(.t 43)]⟩ <|
  .take ⟨(some 45), none, .bin .add (.t 41) (.t 44)⟩ <|
  .one ⟨(some 48), none, .call (.c (.g (.fn 32))) [(.t 47)]⟩ <|
  .take ⟨(some 49), none, .bin .add (.t 45) (.t 48)⟩ <|
  .one ⟨(some 54), none, .call (.c (.g (.fn 32))) [(.t 53)]⟩ <|
  .take ⟨(some 55), none, .bin .add (.t 49) (.t 54)⟩ <|
  .free <|
  .take ⟨(some 4), none, .mov (.t 55)⟩ <|
  .leaf) <|
 .seq (.seq (.reg [1, 4, 5] [⟨(some 5), none, .mov (.c (.g (.int .i64 0)))⟩]) <|
  .block [1, 4] 0 <|
  .loop [1, 4, 5] [] L11_0) <|
 .seq (.drw [2, 3] 0 <|
  .take ⟨(some 91), none, .mov (.t 4)⟩ <|
  .take ⟨(some 92), none, .faddr 10 (.t 1)⟩ <|
  .take ⟨(some 93), none, .faddr 1 (.t 92)⟩ <|
  .take ⟨(some 94), none, .load false 1 (.t 93)⟩ <|
  .take ⟨(some 97), none, .faddr 10 (.t 1)⟩ <|
  .take ⟨(some 98), none, .faddr 2 (.t 97)⟩ <|
  .take ⟨(some 99), none, .load false 1 (.t 98)⟩ <|
  .one ⟨(some 95), none, .call (.c (.g (.fn 35))) [(.t 94)]⟩ <|
  .take ⟨(some 96), none, .bin .add (.t 91) (.t 95)⟩ <|
  .one ⟨(some 100), none, .call (.c (.g (.fn 35))) [(.t 99)]⟩ <|
  .take ⟨(some 101), none, .bin .add (.t 96) (.t 100)⟩ <|
  .free <|
  .take ⟨(some 2), none, .mov (.t 101)⟩ <|
  .take ⟨(some 3), none, .mov (.c (.g (.bool true)))⟩ <|
  .leaf) <|
 .ret⟩
def h11 : List (List Nat) := [[1], [1, 9], [1], [2, 3], [1, 4], [], [1, 4, 5], [1, 4], [1, 4, 5], [1, 4, 5, 61], [1, 4, 5], [1, 4, 5], [1, 4, 5, 6], [1, 4, 5], [], [1, 4, 5], [2, 3], []]
theorem c11 : cFunc Try.prog 11 false h11 = some F11 := by kernel_rfl

/-- baton/wire.Asked -/
def F12 : IFunc := ⟨1, 65, [.cell 2 true 13, .tmp 3], false,
 .seq (.reg [0, 2] [⟨(some 2), none, .alloc [.z (.int .i64 0), .z (.int .i64 0), .z (.int .i64 0), .z (.bool false), .z (.str []), .z (.str []), .z (.int .i64 0), .z (.int .i64 0), .z (.int .i64 0), .z (.int .i64 0), .s 5, .s 4, .s 4]⟩,
    ⟨(some 3), none, .mov (.c (.g (.bool false)))⟩]) <|
 .seq (.reg [2, 4] [⟨(some 7), none, .mov (.t 0)⟩,
    ⟨(some 8), none, .build [.g (.str []), .g (.bool false)] [(0, 1, (.t 7))]⟩,
    ⟨(some 9), none, .box (.t 8)⟩,
    ⟨(some 4), none, .mov (.t 9)⟩]) <|
 .seq (.reg [2, 4, 5] [⟨(some 10), none, .mov (.t 4)⟩,
    ⟨(some 11), none, .call (.c (.g (.fn 36))) [(.t 10)]⟩,
    ⟨(some 5), none, .mov (.t 11)⟩]) <|
 .seq (.reg [2, 4, 5, 6] [⟨(some 12), none, .mov (.t 4)⟩,
    ⟨(some 13), none, .call (.c (.g (.fn 36))) [(.t 12)]⟩,
    ⟨(some 14), none, .mov (.t 4)⟩,
    ⟨(some 15), none, .call (.c (.g (.fn 36))) [(.t 14)]⟩,
    ⟨(some 16), none, .mov (.t 4)⟩,
    ⟨(some 17), none, .call (.c (.g (.fn 36))) [(.t 16)]⟩,
    ⟨(some 18), none, .mov (.t 4)⟩,
    ⟨(some 19), none, .call (.c (.g (.fn 37))) [(.t 18)]⟩,
    ⟨(some 20), none, .mov (.t 4)⟩,
    ⟨(some 21), none, .call (.c (.g (.fn 38))) [(.t 20)]⟩,
    ⟨(some 22), none, .mov (.t 4)⟩,
    ⟨(some 23), none, .call (.c (.g (.fn 38))) [(.t 22)]⟩,
    ⟨(some 24), none, .mov (.t 4)⟩,
    ⟨(some 25), none, .call (.c (.g (.fn 36))) [(.t 24)]⟩,
    ⟨(some 26), none, .mov (.t 4)⟩,
    ⟨(some 27), none, .call (.c (.g (.fn 36))) [(.t 26)]⟩,
    ⟨(some 28), none, .mov (.t 4)⟩,
    ⟨(some 29), none, .call (.c (.g (.fn 36))) [(.t 28)]⟩,
    ⟨(some 30), none, .mov (.t 4)⟩,
    ⟨(some 31), none, .call (.c (.g (.fn 36))) [(.t 30)]⟩,
    ⟨(some 32), none, .build [.g (.int .i64 0), .g (.int .i64 0), .g (.int .i64 0), .g (.bool false), .g (.str []), .g (.str []), .g (.int .i64 0), .g (.int .i64 0), .g (.int .i64 0), .g (.int .i64 0), .g (.nsl), .g (.nsl), .g (.nsl)] [(0, 1, (.t 13)), (1, 1, (.t 15)), (2, 1, (.t 17)), (3, 1, (.t 19)), (4, 1, (.t 21)), (5, 1, (.t 23)), (6, 1, (.t 25)), (7, 1, (.t 27)), (8, 1, (.t 29)), (9, 1, (.t 31))]⟩,
    ⟨(some 6), none, .alloc [.z (.int .i64 0), .z (.int .i64 0), .z (.int .i64 0), .z (.bool false), .z (.str []), .z (.str []), .z (.int .i64 0), .z (.int .i64 0), .z (.int .i64 0), .z (.int .i64 0), .s 5, .s 4, .s 4]⟩,
    ⟨none, none, .store 13 (.t 6) (.t 32)⟩]) <|
 .seq (.reg [2, 4, 5, 6] [⟨(some 33), none, .mov (.t 4)⟩,
    ⟨(some 34), none, .mov (.t 4)⟩,
    ⟨(some 35), none, .mkbv 40 [(.t 34)]⟩,
    ⟨(some 36), none, .call (.c (.g (.fn 39))) [(.t 33), (.c (.g (.int .i64 4))), (.t 35)]⟩,
    ⟨(some 37), none, .faddr 10 (.t 6)⟩,
    ⟨(some 38), none, .faddr 0 (.t 37)⟩,
    ⟨none, none, .store 1 (.t 38) (.t 36)⟩]) <|
 .seq (.reg [2, 4, 5, 6] [⟨(some 39), none, .mov (.t 4)⟩,
    ⟨(some 40), none, .mov (.t 4)⟩,
    ⟨(some 41), none, .mkbv 42 [(.t 40)]⟩,
    ⟨(some 42), none, .call (.c (.g (.fn 41))) [(.t 39), (.c (.g (.int .i64 4))), (.t 41)]⟩,
    ⟨(some 43), none, .faddr 10 (.t 6)⟩,
    ⟨(some 44), none, .faddr 1 (.t 43)⟩,
    ⟨none, none, .store 1 (.t 44) (.t 42)⟩]) <|
 .seq (.reg [2, 4, 5, 6] [⟨(some 45), none, .mov (.t 4)⟩,
    ⟨(some 46), none, .mov (.t 4)⟩,
    ⟨(some 47), none, .mkbv 42 [(.t 46)]⟩,
    ⟨(some 48), none, .call (.c (.g (.fn 41))) [(.t 45), (.c (.g (.int .i64 4))), (.t 47)]⟩,
    ⟨(some 49), none, .faddr 10 (.t 6)⟩,
    ⟨(some 50), none, .faddr 2 (.t 49)⟩,
    ⟨none, none, .store 1 (.t 50) (.t 48)⟩]) <|
 .seq (.seq (.reg [2, 6, 62] [⟨(some 51), none, .mov (.t 4)⟩,
     ⟨(some 52), none, .call (.c (.g (.fn 43))) [(.t 51)]⟩,
     ⟨(some 53), none, .un .not (.t 52)⟩,
     ⟨(some 54), none, .mov (.t 53)⟩,
     ⟨(some 55), (some (54, false)), .mov (.t 5)⟩,
     ⟨(some 56), (some (54, false)), .bin .neq (.t 55) (.c (.g (.int .i64 1)))⟩,
     ⟨(some 57), none, .pick (.t 54) (.c (.g (.bool true))) (.t 56)⟩,
     ⟨(some 58), none, .mov (.t 57)⟩,
     ⟨(some 59), (some (58, false)), .load true 13 (.t 6)⟩,
     ⟨(some 60), (some (58, false)), .call (.c (.g (.fn 14))) [(.t 59)]⟩,
     ⟨(some 61), (some (58, false)), .un .not (.t 60)⟩,
     ⟨(some 62), none, .pick (.t 58) (.c (.g (.bool true))) (.t 61)⟩]) <|
  .cond [2, 6] (.t 62)
   (.seq (.reg [2, 3] [⟨(some 63), none, .build [.g (.int .i64 0), .g (.int .i64 0), .g (.int .i64 0), .g (.bool false), .g (.str []), .g (.str []), .g (.int .i64 0), .g (.int .i64 0), .g (.int .i64 0), .g (.int .i64 0), .g (.nsl), .g (.nsl), .g (.nsl)] []⟩,
       ⟨none, none, .store 13 (.t 2) (.t 63)⟩,
       ⟨(some 3), none, .mov (.c (.g (.bool false)))⟩]) <|
    .ret)
   (.skip)) <|
 .seq (.reg [2, 3] [⟨(some 64), none, .load true 13 (.t 6)⟩,
    ⟨none, none, .store 13 (.t 2) (.t 64)⟩,
    ⟨(some 3), none, .mov (.c (.g (.bool true)))⟩]) <|
 .ret⟩
def h12 : List (List Nat) := [[0, 2], [2, 4], [2, 4, 5], [2, 4, 5, 6], [2, 4, 5, 6], [2, 4, 5, 6], [2, 4, 5, 6], [2, 6, 62], [2, 6], [2, 3], [2, 3]]
theorem c12 : cFunc Try.prog 12 false h12 = some F12 := by kernel_rfl

/-- baton/batonref03.Asked -/
def L13_0 : IC :=
 .seq (.seq (.reg [0, 2, 4, 5, 6, 7, 63] [⟨(some 50), none, .mov (.t 7)⟩,
     ⟨(some 51), none, .mov (.t 6)⟩,
     ⟨(some 52), none, .bin .lss (.t 50) (.t 51)⟩,
     ⟨(some 53), none, .mov (.t 52)⟩,
     ⟨(some 54), (some (53, true)), .mov (.t 4)⟩,
     ⟨(some 55), (some (53, true)), .nilchk (.t 54)⟩,
     ⟨(some 56), (some (53, true)), .faddr 2 (.t 55)⟩,
     ⟨(some 57), (some (53, true)), .load false 1 (.t 56)⟩,
     ⟨(some 58), (some (53, true)), .un .not (.t 57)⟩,
     ⟨(some 59), none, .pick (.t 53) (.t 58) (.c (.g (.bool false)))⟩,
     ⟨(some 60), none, .mov (.t 59)⟩,
     ⟨(some 61), (some (60, true)), .mov (.t 7)⟩,
     ⟨(some 62), (some (60, true)), .bin .leq (.t 61) (.c (.g (.int .i64 4)))⟩,
     ⟨(some 63), none, .pick (.t 60) (.t 62) (.c (.g (.bool false)))⟩]) <|
  .cond [0, 2, 4, 5, 6, 7] (.t 63)
   (.skip)
   (.exit 0)) <|
 .seq (.block [0, 2, 4, 5, 6, 7] 1 <|
  .seq (.reg [0, 2, 4, 5, 6, 7, 8] [⟨(some 66), none, .mov (.t 4)⟩,
     ⟨(some 67), none, .call (.c (.g (.fn 46))) [(.t 66)]⟩,
     ⟨(some 68), none, .build [.g (.str []), .g (.int .i64 0), .g (.int .i64 0), .g (.int .i64 0), .g (.str [])] [(0, 1, (.t 67))]⟩,
     ⟨(some 8), none, .alloc [.z (.str []), .z (.int .i64 0), .z (.int .i64 0), .z (.int .i64 0), .z (.str [])]⟩,
     ⟨none, none, .store 5 (.t 8) (.t 68)⟩]) <|
  .seq (.reg [0, 2, 4, 5, 6, 7, 8] [⟨(some 69), none, .mov (.t 4)⟩,
     ⟨(some 70), none, .call (.c (.g (.fn 44))) [(.t 69)]⟩,
     ⟨(some 71), none, .faddr 1 (.t 8)⟩,
     ⟨none, none, .store 1 (.t 71) (.t 70)⟩]) <|
  .seq (.reg [0, 2, 4, 5, 6, 7, 8] [⟨(some 72), none, .mov (.t 4)⟩,
     ⟨(some 73), none, .call (.c (.g (.fn 44))) [(.t 72)]⟩,
     ⟨(some 74), none, .faddr 2 (.t 8)⟩,
     ⟨none, none, .store 1 (.t 74) (.t 73)⟩]) <|
  .seq (.reg [0, 2, 4, 5, 6, 7, 8] [⟨(some 75), none, .mov (.t 4)⟩,
     ⟨(some 76), none, .call (.c (.g (.fn 44))) [(.t 75)]⟩,
     ⟨(some 77), none, .faddr 3 (.t 8)⟩,
     ⟨none, none, .store 1 (.t 77) (.t 76)⟩]) <|
  .seq (.reg [0, 2, 4, 5, 6, 7, 8] [⟨(some 78), none, .mov (.t 4)⟩,
     ⟨(some 79), none, .call (.c (.g (.fn 46))) [(.t 78)]⟩,
     ⟨(some 80), none, .faddr 4 (.t 8)⟩,
     ⟨none, none, .store 1 (.t 80) (.t 79)⟩]) <|
  .reg [0, 2, 4, 5, 6, 7] [⟨(some 81), none, .faddr 10 (.t 5)⟩,
    ⟨(some 82), none, .faddr 0 (.t 81)⟩,
    ⟨(some 83), none, .load false 1 (.t 82)⟩,
    ⟨(some 84), none, .load true 5 (.t 8)⟩,
    ⟨(some 85), none, .bslice 5 1 [.str [], .int .i64 0, .int .i64 0, .int .i64 0, .str []] [(0, 5, (.t 84))]⟩,
    ⟨(some 86), none, .app 5 56 (.t 83) (.t 85)⟩,
    ⟨(some 87), none, .faddr 10 (.t 5)⟩,
    ⟨(some 88), none, .faddr 0 (.t 87)⟩,
    ⟨none, none, .store 1 (.t 88) (.t 86)⟩]) <|
 .reg [0, 2, 4, 5, 6, 7] [⟨(some 64), none, .mov (.t 7)⟩,
   ⟨(some 65), none, .bin .add (.t 64) (.c (.g (.int .i64 1)))⟩,
   ⟨(some 7), none, .mov (.t 65)⟩]
def F13 : IFunc := ⟨1, 117, [.cell 2 true 13, .tmp 3], false,
 .seq (.reg [0, 2] [⟨(some 2), none, .alloc [.z (.int .i64 0), .z (.int .i64 0), .z (.int .i64 0), .z (.bool false), .z (.str []), .z (.str []), .z (.int .i64 0), .z (.int .i64 0), .z (.int .i64 0), .z (.int .i64 0), .s 5, .s 4, .s 4]⟩,
    ⟨(some 3), none, .mov (.c (.g (.bool false)))⟩]) <|
 .seq (.reg [0, 2, 4] [⟨(some 11), none, .mov (.t 0)⟩,
    ⟨(some 12), none, .build [.g (.str []), .g (.int .i64 0), .g (.bool false)] [(0, 1, (.t 11))]⟩,
    ⟨(some 13), none, .box (.t 12)⟩,
    ⟨(some 4), none, .mov (.t 13)⟩]) <|
 .seq (.seq (.reg [0, 2, 4, 16] [⟨(some 14), none, .mov (.t 4)⟩,
     ⟨(some 15), none, .call (.c (.g (.fn 44))) [(.t 14)]⟩,
     ⟨(some 16), none, .bin .neq (.t 15) (.c (.g (.int .i64 1)))⟩]) <|
  .cond [0, 2, 4] (.t 16)
   (.seq (.reg [2, 3] [⟨(some 17), none, .build [.g (.int .i64 0), .g (.int .i64 0), .g (.int .i64 0), .g (.bool false), .g (.str []), .g (.str []), .g (.int .i64 0), .g (.int .i64 0), .g (.int .i64 0), .g (.int .i64 0), .g (.nsl), .g (.nsl), .g (.nsl)] []⟩,
       ⟨none, none, .store 13 (.t 2) (.t 17)⟩,
       ⟨(some 3), none, .mov (.c (.g (.bool false)))⟩]) <|
    .ret)
   (.skip)) <|
 .seq (.reg [0, 2, 4, 5] [⟨(some 18), none, .mov (.t 4)⟩,
    ⟨(some 19), none, .call (.c (.g (.fn 44))) [(.t 18)]⟩,
    ⟨(some 20), none, .build [.g (.int .i64 0), .g (.int .i64 0), .g (.int .i64 0), .g (.bool false), .g (.str []), .g (.str []), .g (.int .i64 0), .g (.int .i64 0), .g (.int .i64 0), .g (.int .i64 0), .g (.nsl), .g (.nsl), .g (.nsl)] [(0, 1, (.t 19))]⟩,
    ⟨(some 5), none, .alloc [.z (.int .i64 0), .z (.int .i64 0), .z (.int .i64 0), .z (.bool false), .z (.str []), .z (.str []), .z (.int .i64 0), .z (.int .i64 0), .z (.int .i64 0), .z (.int .i64 0), .s 5, .s 4, .s 4]⟩,
    ⟨none, none, .store 13 (.t 5) (.t 20)⟩]) <|
 .seq (.reg [0, 2, 4, 5] [⟨(some 21), none, .mov (.t 4)⟩,
    ⟨(some 22), none, .call (.c (.g (.fn 44))) [(.t 21)]⟩,
    ⟨(some 23), none, .faddr 1 (.t 5)⟩,
    ⟨none, none, .store 1 (.t 23) (.t 22)⟩]) <|
 .seq (.reg [0, 2, 4, 5] [⟨(some 24), none, .mov (.t 4)⟩,
    ⟨(some 25), none, .call (.c (.g (.fn 44))) [(.t 24)]⟩,
    ⟨(some 26), none, .faddr 2 (.t 5)⟩,
    ⟨none, none, .store 1 (.t 26) (.t 25)⟩]) <|
 .seq (.reg [0, 2, 4, 5] [⟨(some 27), none, .mov (.t 4)⟩,
    ⟨(some 28), none, .call (.c (.g (.fn 45))) [(.t 27)]⟩,
    ⟨(some 29), none, .faddr 3 (.t 5)⟩,
    ⟨none, none, .store 1 (.t 29) (.t 28)⟩]) <|
 .seq (.reg [0, 2, 4, 5] [⟨(some 30), none, .mov (.t 4)⟩,
    ⟨(some 31), none, .call (.c (.g (.fn 46))) [(.t 30)]⟩,
    ⟨(some 32), none, .faddr 4 (.t 5)⟩,
    ⟨none, none, .store 1 (.t 32) (.t 31)⟩]) <|
 .seq (.reg [0, 2, 4, 5] [⟨(some 33), none, .mov (.t 4)⟩,
    ⟨(some 34), none, .call (.c (.g (.fn 46))) [(.t 33)]⟩,
    ⟨(some 35), none, .faddr 5 (.t 5)⟩,
    ⟨none, none, .store 1 (.t 35) (.t 34)⟩]) <|
 .seq (.reg [0, 2, 4, 5] [⟨(some 36), none, .mov (.t 4)⟩,
    ⟨(some 37), none, .call (.c (.g (.fn 44))) [(.t 36)]⟩,
    ⟨(some 38), none, .faddr 6 (.t 5)⟩,
    ⟨none, none, .store 1 (.t 38) (.t 37)⟩]) <|
 .seq (.reg [0, 2, 4, 5] [⟨(some 39), none, .mov (.t 4)⟩,
    ⟨(some 40), none, .call (.c (.g (.fn 44))) [(.t 39)]⟩,
    ⟨(some 41), none, .faddr 7 (.t 5)⟩,
    ⟨none, none, .store 1 (.t 41) (.t 40)⟩]) <|
 .seq (.reg [0, 2, 4, 5] [⟨(some 42), none, .mov (.t 4)⟩,
    ⟨(some 43), none, .call (.c (.g (.fn 44))) [(.t 42)]⟩,
    ⟨(some 44), none, .faddr 8 (.t 5)⟩,
    ⟨none, none, .store 1 (.t 44) (.t 43)⟩]) <|
 .seq (.reg [0, 2, 4, 5] [⟨(some 45), none, .mov (.t 4)⟩,
    ⟨(some 46), none, .call (.c (.g (.fn 44))) [(.t 45)]⟩,
    ⟨(some 47), none, .faddr 9 (.t 5)⟩,
    ⟨none, none, .store 1 (.t 47) (.t 46)⟩]) <|
 .seq (.reg [0, 2, 4, 5, 6] [⟨(some 48), none, .mov (.t 4)⟩,
    ⟨(some 49), none, .call (.c (.g (.fn 44))) [(.t 48)]⟩,
    ⟨(some 6), none, .mov (.t 49)⟩]) <|
 .seq (.seq (.reg [0, 2, 4, 5, 6, 7] [⟨(some 7), none, .mov (.c (.g (.int .i64 0)))⟩]) <|
  .block [0, 2, 4, 5] 0 <|
  .loop [0, 2, 4, 5, 6, 7] [] L13_0) <|
 .seq (.reg [0, 2, 4, 5] [⟨(some 89), none, .mov (.t 4)⟩,
    ⟨(some 90), none, .call (.c (.g (.fn 47))) [(.t 89)]⟩,
    ⟨(some 91), none, .faddr 10 (.t 5)⟩,
    ⟨(some 92), none, .faddr 1 (.t 91)⟩,
    ⟨none, none, .store 1 (.t 92) (.t 90)⟩]) <|
 .seq (.reg [0, 2, 4, 5] [⟨(some 93), none, .mov (.t 4)⟩,
    ⟨(some 94), none, .call (.c (.g (.fn 47))) [(.t 93)]⟩,
    ⟨(some 95), none, .faddr 10 (.t 5)⟩,
    ⟨(some 96), none, .faddr 2 (.t 95)⟩,
    ⟨none, none, .store 1 (.t 96) (.t 94)⟩]) <|
 .seq (.reg [0, 2, 4, 5, 9, 10] [⟨(some 98), none, .load true 13 (.t 5)⟩,
    ⟨(some 99), none, .call (.c (.g (.fn 11))) [(.t 98)]⟩,
    ⟨(some 97), none, .mov (.t 99)⟩,
    ⟨(some 100), none, .ext 0 (.t 97)⟩,
    ⟨(some 101), none, .ext 1 (.t 97)⟩,
    ⟨(some 9), none, .mov (.t 100)⟩,
    ⟨(some 10), none, .mov (.t 101)⟩]) <|
 .seq (.seq (.reg [2, 5, 114] [⟨(some 102), none, .mov (.t 4)⟩,
     ⟨(some 103), none, .nilchk (.t 102)⟩,
     ⟨(some 104), none, .faddr 2 (.t 103)⟩,
     ⟨(some 105), none, .load false 1 (.t 104)⟩,
     ⟨(some 106), none, .mov (.t 105)⟩,
     ⟨(some 107), (some (106, false)), .mov (.t 10)⟩,
     ⟨(some 108), (some (106, false)), .un .not (.t 107)⟩,
     ⟨(some 109), none, .pick (.t 106) (.c (.g (.bool true))) (.t 108)⟩,
     ⟨(some 110), none, .mov (.t 109)⟩,
     ⟨(some 111), (some (110, false)), .mov (.t 9)⟩,
     ⟨(some 112), (some (110, false)), .mov (.t 0)⟩,
     ⟨(some 113), (some (110, false)), .bin .neq (.t 111) (.t 112)⟩,
     ⟨(some 114), none, .pick (.t 110) (.c (.g (.bool true))) (.t 113)⟩]) <|
  .cond [2, 5] (.t 114)
   (.seq (.reg [2, 3] [⟨(some 115), none, .build [.g (.int .i64 0), .g (.int .i64 0), .g (.int .i64 0), .g (.bool false), .g (.str []), .g (.str []), .g (.int .i64 0), .g (.int .i64 0), .g (.int .i64 0), .g (.int .i64 0), .g (.nsl), .g (.nsl), .g (.nsl)] []⟩,
       ⟨none, none, .store 13 (.t 2) (.t 115)⟩,
       ⟨(some 3), none, .mov (.c (.g (.bool false)))⟩]) <|
    .ret)
   (.skip)) <|
 .seq (.reg [2, 3] [⟨(some 116), none, .load true 13 (.t 5)⟩,
    ⟨none, none, .store 13 (.t 2) (.t 116)⟩,
    ⟨(some 3), none, .mov (.c (.g (.bool true)))⟩]) <|
 .ret⟩
def h13 : List (List Nat) := [[0, 2], [0, 2, 4], [0, 2, 4, 16], [0, 2, 4], [2, 3], [0, 2, 4, 5], [0, 2, 4, 5], [0, 2, 4, 5], [0, 2, 4, 5], [0, 2, 4, 5], [0, 2, 4, 5], [0, 2, 4, 5], [0, 2, 4, 5], [0, 2, 4, 5], [0, 2, 4, 5], [0, 2, 4, 5, 6], [0, 2, 4, 5, 6, 7], [0, 2, 4, 5], [0, 2, 4, 5, 6, 7], [0, 2, 4, 5, 6, 7, 63], [0, 2, 4, 5, 6, 7], [0, 2, 4, 5, 6, 7], [0, 2, 4, 5, 6, 7, 8], [0, 2, 4, 5, 6, 7, 8], [0, 2, 4, 5, 6, 7, 8], [0, 2, 4, 5, 6, 7, 8], [0, 2, 4, 5, 6, 7, 8], [0, 2, 4, 5, 6, 7], [0, 2, 4, 5, 6, 7], [0, 2, 4, 5], [0, 2, 4, 5], [0, 2, 4, 5, 9, 10], [2, 5, 114], [2, 5], [2, 3], [2, 3]]
theorem c13 : cFunc Try.prog 13 false h13 = some F13 := by kernel_rfl

/-- baton/wire.MayAsk -/
def F14 : IFunc := ⟨1, 52, [.tmp 2], false,
 .seq (.reg [1] [⟨(some 1), none, .box (.t 0)⟩,
    ⟨(some 2), none, .mov (.c (.g (.bool false)))⟩]) <|
 .seq (.seq (.reg [1, 35] [⟨(some 3), none, .faddr 0 (.t 1)⟩,
     ⟨(some 4), none, .load false 1 (.t 3)⟩,
     ⟨(some 5), none, .bin .lss (.t 4) (.c (.g (.int .i64 1)))⟩,
     ⟨(some 6), none, .mov (.t 5)⟩,
     ⟨(some 7), (some (6, false)), .faddr 0 (.t 1)⟩,
     ⟨(some 8), (some (6, false)), .load false 1 (.t 7)⟩,
     ⟨(some 9), (some (6, false)), .bin .gtr (.t 8) (.c (.g (.int .i64 8)))⟩,
     ⟨(some 10), none, .pick (.t 6) (.c (.g (.bool true))) (.t 9)⟩,
     ⟨(some 11), none, .mov (.t 10)⟩,
     ⟨(some 12), (some (11, false)), .faddr 4 (.t 1)⟩,
     ⟨(some 13), (some (11, false)), .load false 1 (.t 12)⟩,
     ⟨(some 14), (some (11, false)), .faddr 5 (.t 1)⟩,
     ⟨(some 15), (some (11, false)), .load false 1 (.t 14)⟩,
     ⟨(some 16), (some (11, false)), .call (.c (.g (.fn 48))) [(.t 13), (.t 15)]⟩,
     ⟨(some 17), (some (11, false)), .un .not (.t 16)⟩,
     ⟨(some 18), none, .pick (.t 11) (.c (.g (.bool true))) (.t 17)⟩,
     ⟨(some 19), none, .mov (.t 18)⟩,
     ⟨(some 20), (some (19, false)), .faddr 1 (.t 1)⟩,
     ⟨(some 21), (some (19, false)), .load false 1 (.t 20)⟩,
     ⟨(some 22), (some (19, false)), .faddr 2 (.t 1)⟩,
     ⟨(some 23), (some (19, false)), .load false 1 (.t 22)⟩,
     ⟨(some 24), (some (19, false)), .faddr 6 (.t 1)⟩,
     ⟨(some 25), (some (19, false)), .load false 1 (.t 24)⟩,
     ⟨(some 26), (some (19, false)), .faddr 7 (.t 1)⟩,
     ⟨(some 27), (some (19, false)), .load false 1 (.t 26)⟩,
     ⟨(some 28), (some (19, false)), .faddr 8 (.t 1)⟩,
     ⟨(some 29), (some (19, false)), .load false 1 (.t 28)⟩,
     ⟨(some 30), (some (19, false)), .faddr 9 (.t 1)⟩,
     ⟨(some 31), (some (19, false)), .load false 1 (.t 30)⟩,
     ⟨(some 32), (some (19, false)), .bslice 1 6 [.int .i64 0] [(0, 1, (.t 21)), (1, 1, (.t 23)), (2, 1, (.t 25)), (3, 1, (.t 27)), (4, 1, (.t 29)), (5, 1, (.t 31))]⟩,
     ⟨(some 33), (some (19, false)), .call (.c (.g (.fn 49))) [(.t 32)]⟩,
     ⟨(some 34), (some (19, false)), .un .not (.t 33)⟩,
     ⟨(some 35), none, .pick (.t 19) (.c (.g (.bool true))) (.t 34)⟩]) <|
  .cond [1] (.t 35)
   (.seq (.reg [2] [⟨(some 2), none, .mov (.c (.g (.bool false)))⟩]) <|
    .ret)
   (.skip)) <|
 .seq (.reg [2] [⟨(some 36), none, .faddr 10 (.t 1)⟩,
    ⟨(some 37), none, .faddr 0 (.t 36)⟩,
    ⟨(some 38), none, .load false 1 (.t 37)⟩,
    ⟨(some 39), none, .call (.c (.g (.fn 50))) [(.t 38), (.c (.g (.int .i64 4))), (.c (.g (.fn 51)))]⟩,
    ⟨(some 40), none, .mov (.t 39)⟩,
    ⟨(some 41), (some (40, true)), .faddr 10 (.t 1)⟩,
    ⟨(some 42), (some (40, true)), .faddr 1 (.t 41)⟩,
    ⟨(some 43), (some (40, true)), .load false 1 (.t 42)⟩,
    ⟨(some 44), (some (40, true)), .call (.c (.g (.fn 52))) [(.t 43), (.c (.g (.int .i64 4))), (.c (.g (.fn 53)))]⟩,
    ⟨(some 45), none, .pick (.t 40) (.t 44) (.c (.g (.bool false)))⟩,
    ⟨(some 46), none, .mov (.t 45)⟩,
    ⟨(some 47), (some (46, true)), .faddr 10 (.t 1)⟩,
    ⟨(some 48), (some (46, true)), .faddr 2 (.t 47)⟩,
    ⟨(some 49), (some (46, true)), .load false 1 (.t 48)⟩,
    ⟨(some 50), (some (46, true)), .call (.c (.g (.fn 52))) [(.t 49), (.c (.g (.int .i64 4))), (.c (.g (.fn 53)))]⟩,
    ⟨(some 51), none, .pick (.t 46) (.t 50) (.c (.g (.bool false)))⟩,
    ⟨(some 2), none, .mov (.t 51)⟩]) <|
 .ret⟩
def h14 : List (List Nat) := [[1], [1, 35], [1], [2], [2]]
theorem c14 : cFunc Try.prog 14 false h14 = some F14 := by kernel_rfl

/-- baton/batonref03.MayAsk -/
def L15_0 : IC :=
 .seq (.seq (.reg [1, 3, 69] [⟨(some 64), none, .mov (.t 3)⟩,
     ⟨(some 65), none, .faddr 10 (.t 1)⟩,
     ⟨(some 66), none, .faddr 0 (.t 65)⟩,
     ⟨(some 67), none, .load false 1 (.t 66)⟩,
     ⟨(some 68), none, .len (.t 67)⟩,
     ⟨(some 69), none, .bin .lss (.t 64) (.t 68)⟩]) <|
  .cond [1, 3] (.t 69)
   (.skip)
   (.exit 0)) <|
 .seq (.block [1, 3] 1 <|
  .seq (.reg [1, 3, 4] [⟨(some 72), none, .faddr 10 (.t 1)⟩,
     ⟨(some 73), none, .faddr 0 (.t 72)⟩,
     ⟨(some 74), none, .load false 1 (.t 73)⟩,
     ⟨(some 75), none, .mov (.t 3)⟩,
     ⟨(some 76), none, .iaddr 5 (.t 74) (.t 75)⟩,
     ⟨(some 77), none, .load true 5 (.t 76)⟩,
     ⟨(some 4), none, .alloc [.z (.str []), .z (.int .i64 0), .z (.int .i64 0), .z (.int .i64 0), .z (.str [])]⟩,
     ⟨none, none, .store 5 (.t 4) (.t 77)⟩]) <|
  .seq (.reg [1, 3, 109] [⟨(some 78), none, .faddr 0 (.t 4)⟩,
     ⟨(some 79), none, .load false 1 (.t 78)⟩,
     ⟨(some 80), none, .faddr 4 (.t 4)⟩,
     ⟨(some 81), none, .load false 1 (.t 80)⟩,
     ⟨(some 82), none, .call (.c (.g (.fn 55))) [(.t 79), (.t 81)]⟩,
     ⟨(some 83), none, .un .not (.t 82)⟩,
     ⟨(some 84), none, .mov (.t 83)⟩,
     ⟨(some 85), (some (84, false)), .faddr 1 (.t 4)⟩,
     ⟨(some 86), (some (84, false)), .load false 1 (.t 85)⟩,
     ⟨(some 87), (some (84, false)), .bin .lss (.t 86) (.c (.g (.int .i64 1)))⟩,
     ⟨(some 88), none, .pick (.t 84) (.c (.g (.bool true))) (.t 87)⟩,
     ⟨(some 89), none, .mov (.t 88)⟩,
     ⟨(some 90), (some (89, false)), .faddr 1 (.t 4)⟩,
     ⟨(some 91), (some (89, false)), .load false 1 (.t 90)⟩,
     ⟨(some 92), (some (89, false)), .bin .gtr (.t 91) (.c (.g (.int .i64 4)))⟩,
     ⟨(some 93), none, .pick (.t 89) (.c (.g (.bool true))) (.t 92)⟩,
     ⟨(some 94), none, .mov (.t 93)⟩,
     ⟨(some 95), (some (94, false)), .faddr 2 (.t 4)⟩,
     ⟨(some 96), (some (94, false)), .load false 1 (.t 95)⟩,
     ⟨(some 97), (some (94, false)), .bin .lss (.t 96) (.c (.g (.int .i64 1)))⟩,
     ⟨(some 98), none, .pick (.t 94) (.c (.g (.bool true))) (.t 97)⟩,
     ⟨(some 99), none, .mov (.t 98)⟩,
     ⟨(some 100), (some (99, false)), .faddr 2 (.t 4)⟩,
     ⟨(some 101), (some (99, false)), .load false 1 (.t 100)⟩,
     ⟨(some 102), (some (99, false)), .bin .gtr (.t 101) (.c (.g (.int .i64 3)))⟩,
     ⟨(some 103), none, .pick (.t 99) (.c (.g (.bool true))) (.t 102)⟩,
     ⟨(some 104), none, .mov (.t 103)⟩,
     ⟨(some 105), (some (104, false)), .faddr 3 (.t 4)⟩,
     ⟨(some 106), (some (104, false)), .load false 1 (.t 105)⟩,
     ⟨(some 107), (some (104, false)), .call (.c (.g (.fn 54))) [(.t 106)]⟩,
     ⟨(some 108), (some (104, false)), .un .not (.t 107)⟩,
     ⟨(some 109), none, .pick (.t 104) (.c (.g (.bool true))) (.t 108)⟩]) <|
  .cond [1, 3] (.t 109)
   (.seq (.reg [2] [⟨(some 2), none, .mov (.c (.g (.bool false)))⟩]) <|
    .ret)
   (.skip)) <|
 .reg [1, 3] [⟨(some 70), none, .mov (.t 3)⟩,
   ⟨(some 71), none, .bin .add (.t 70) (.c (.g (.int .i64 1)))⟩,
   ⟨(some 3), none, .mov (.t 71)⟩]
def F15 : IFunc := ⟨1, 120, [.tmp 2], false,
 .seq (.reg [1] [⟨(some 1), none, .box (.t 0)⟩,
    ⟨(some 2), none, .mov (.c (.g (.bool false)))⟩]) <|
 .seq (.seq (.reg [1, 63] [⟨(some 5), none, .faddr 0 (.t 1)⟩,
     ⟨(some 6), none, .load false 1 (.t 5)⟩,
     ⟨(some 7), none, .bin .lss (.t 6) (.c (.g (.int .i64 1)))⟩,
     ⟨(some 8), none, .mov (.t 7)⟩,
     ⟨(some 9), (some (8, false)), .faddr 0 (.t 1)⟩,
     ⟨(some 10), (some (8, false)), .load false 1 (.t 9)⟩,
     ⟨(some 11), (some (8, false)), .bin .gtr (.t 10) (.c (.g (.int .i64 8)))⟩,
     ⟨(some 12), none, .pick (.t 8) (.c (.g (.bool true))) (.t 11)⟩,
     ⟨(some 13), none, .mov (.t 12)⟩,
     ⟨(some 14), (some (13, false)), .faddr 1 (.t 1)⟩,
     ⟨(some 15), (some (13, false)), .load false 1 (.t 14)⟩,
     ⟨(some 16), (some (13, false)), .call (.c (.g (.fn 54))) [(.t 15)]⟩,
     ⟨(some 17), (some (13, false)), .un .not (.t 16)⟩,
     ⟨(some 18), none, .pick (.t 13) (.c (.g (.bool true))) (.t 17)⟩,
     ⟨(some 19), none, .mov (.t 18)⟩,
     ⟨(some 20), (some (19, false)), .faddr 2 (.t 1)⟩,
     ⟨(some 21), (some (19, false)), .load false 1 (.t 20)⟩,
     ⟨(some 22), (some (19, false)), .call (.c (.g (.fn 54))) [(.t 21)]⟩,
     ⟨(some 23), (some (19, false)), .un .not (.t 22)⟩,
     ⟨(some 24), none, .pick (.t 19) (.c (.g (.bool true))) (.t 23)⟩,
     ⟨(some 25), none, .mov (.t 24)⟩,
     ⟨(some 26), (some (25, false)), .faddr 6 (.t 1)⟩,
     ⟨(some 27), (some (25, false)), .load false 1 (.t 26)⟩,
     ⟨(some 28), (some (25, false)), .call (.c (.g (.fn 54))) [(.t 27)]⟩,
     ⟨(some 29), (some (25, false)), .un .not (.t 28)⟩,
     ⟨(some 30), none, .pick (.t 25) (.c (.g (.bool true))) (.t 29)⟩,
     ⟨(some 31), none, .mov (.t 30)⟩,
     ⟨(some 32), (some (31, false)), .faddr 7 (.t 1)⟩,
     ⟨(some 33), (some (31, false)), .load false 1 (.t 32)⟩,
     ⟨(some 34), (some (31, false)), .call (.c (.g (.fn 54))) [(.t 33)]⟩,
     ⟨(some 35), (some (31, false)), .un .not (.t 34)⟩,
     ⟨(some 36), none, .pick (.t 31) (.c (.g (.bool true))) (.t 35)⟩,
     ⟨(some 37), none, .mov (.t 36)⟩,
     ⟨(some 38), (some (37, false)), .faddr 8 (.t 1)⟩,
     ⟨(some 39), (some (37, false)), .load false 1 (.t 38)⟩,
     ⟨(some 40), (some (37, false)), .call (.c (.g (.fn 54))) [(.t 39)]⟩,
     ⟨(some 41), (some (37, false)), .un .not (.t 40)⟩,
     ⟨(some 42), none, .pick (.t 37) (.c (.g (.bool true))) (.t 41)⟩,
     ⟨(some 43), none, .mov (.t 42)⟩,
     ⟨(some 44), (some (43, false)), .faddr 9 (.t 1)⟩,
     ⟨(some 45), (some (43, false)), .load false 1 (.t 44)⟩,
     ⟨(some 46), (some (43, false)), .call (.c (.g (.fn 54))) [(.t 45)]⟩,
     ⟨(some 47), (some (43, false)), .un .not (.t 46)⟩,
     ⟨(some 48), none, .pick (.t 43) (.c (.g (.bool true))) (.t 47)⟩,
     ⟨(some 49), none, .mov (.t 48)⟩,
     ⟨(some 50), (some (49, false)), .faddr 4 (.t 1)⟩,
     ⟨(some 51), (some (49, false)), .load false 1 (.t 50)⟩,
     ⟨(some 52), (some (49, false)), .faddr 5 (.t 1)⟩,
     ⟨(some 53), (some (49, false)), .load false 1 (.t 52)⟩,
     ⟨(some 54), (some (49, false)), .call (.c (.g (.fn 55))) [(.t 51), (.t 53)]⟩,
     ⟨(some 55), (some (49, false)), .un .not (.t 54)⟩,
     ⟨(some 56), none, .pick (.t 49) (.c (.g (.bool true))) (.t 55)⟩,
     ⟨(some 57), none, .mov (.t 56)⟩,
     ⟨(some 58), (some (57, false)), .faddr 10 (.t 1)⟩,
     ⟨(some 59), (some (57, false)), .faddr 0 (.t 58)⟩,
     ⟨(some 60), (some (57, false)), .load false 1 (.t 59)⟩,
     ⟨(some 61), (some (57, false)), .len (.t 60)⟩,
     ⟨(some 62), (some (57, false)), .bin .gtr (.t 61) (.c (.g (.int .i64 4)))⟩,
     ⟨(some 63), none, .pick (.t 57) (.c (.g (.bool true))) (.t 62)⟩]) <|
  .cond [1] (.t 63)
   (.seq (.reg [2] [⟨(some 2), none, .mov (.c (.g (.bool false)))⟩]) <|
    .ret)
   (.skip)) <|
 .seq (.seq (.reg [1, 3] [⟨(some 3), none, .mov (.c (.g (.int .i64 0)))⟩]) <|
  .block [1] 0 <|
  .loop [1, 3] [] L15_0) <|
 .seq (.reg [2] [⟨(some 110), none, .faddr 10 (.t 1)⟩,
    ⟨(some 111), none, .faddr 1 (.t 110)⟩,
    ⟨(some 112), none, .load false 1 (.t 111)⟩,
    ⟨(some 113), none, .call (.c (.g (.fn 56))) [(.t 112)]⟩,
    ⟨(some 114), none, .mov (.t 113)⟩,
    ⟨(some 115), (some (114, true)), .faddr 10 (.t 1)⟩,
    ⟨(some 116), (some (114, true)), .faddr 2 (.t 115)⟩,
    ⟨(some 117), (some (114, true)), .load false 1 (.t 116)⟩,
    ⟨(some 118), (some (114, true)), .call (.c (.g (.fn 56))) [(.t 117)]⟩,
    ⟨(some 119), none, .pick (.t 114) (.t 118) (.c (.g (.bool false)))⟩,
    ⟨(some 2), none, .mov (.t 119)⟩]) <|
 .ret⟩
def h15 : List (List Nat) := [[1], [1, 63], [1], [2], [1, 3], [1], [1, 3], [1, 3, 69], [1, 3], [1, 3], [1, 3, 4], [1, 3, 109], [1, 3], [2], [1, 3], [2]]
theorem c15 : cFunc Try.prog 15 false h15 = some F15 := by kernel_rfl

/-- baton/batonref03.Same -/
def L16_0 : IC :=
 .seq (.seq (.reg [2, 3, 5, 90] [⟨(some 85), none, .mov (.t 5)⟩,
     ⟨(some 86), none, .faddr 10 (.t 2)⟩,
     ⟨(some 87), none, .faddr 0 (.t 86)⟩,
     ⟨(some 88), none, .load false 1 (.t 87)⟩,
     ⟨(some 89), none, .len (.t 88)⟩,
     ⟨(some 90), none, .bin .lss (.t 85) (.t 89)⟩]) <|
  .cond [2, 3, 5] (.t 90)
   (.skip)
   (.exit 0)) <|
 .seq (.block [2, 3, 5] 1 <|
  .seq (.drw [2, 3, 5, 105] 0 <|
   .take ⟨(some 93), none, .faddr 10 (.t 2)⟩ <|
   .take ⟨(some 94), none, .faddr 0 (.t 93)⟩ <|
   .take ⟨(some 95), none, .load false 1 (.t 94)⟩ <|
   .take ⟨(some 96), none, .mov (.t 5)⟩ <|
   .take ⟨(some 97), none, .iaddr 5 (.t 95) (.t 96)⟩ <|
   .take ⟨(some 98), none, .load true 5 (.t 97)⟩ <|
   .take ⟨(some 99), none, .faddr 10 (.t 3)⟩ <|
   .take ⟨(some 100), none, .faddr 0 (.t 99)⟩ <|
   .take ⟨(some 101), none, .load false 1 (.t 100)⟩ <|
   .take ⟨(some 102), none, .mov (.t 5)⟩ <|
   .take ⟨(some 103), none, .iaddr 5 (.t 101) (.t 102)⟩ <|
   .take ⟨(some 104), none, .load true 5 (.t 103)⟩ <|
   .take ⟨(some 105), none, .eqs true true [.s, .i, .i, .i, .s] (.t 98) (.t 104)⟩ <|
   .leaf) <|
  .cond [2, 3, 5] (.t 105)
   (.seq (.reg [4] [⟨(some 4), none, .mov (.c (.g (.bool false)))⟩]) <|
    .ret)
   (.skip)) <|
 .reg [2, 3, 5] [⟨(some 91), none, .mov (.t 5)⟩,
   ⟨(some 92), none, .bin .add (.t 91) (.c (.g (.int .i64 1)))⟩,
   ⟨(some 5), none, .mov (.t 92)⟩]
def F16 : IFunc := ⟨2, 122, [.tmp 4], false,
 .seq (.reg [2, 3] [⟨(some 2), none, .box (.t 0)⟩,
    ⟨(some 3), none, .box (.t 1)⟩,
    ⟨(some 4), none, .mov (.c (.g (.bool false)))⟩]) <|
 .seq (.seq (.reg [2, 3, 84] [⟨(some 6), none, .faddr 0 (.t 2)⟩,
     ⟨(some 7), none, .load false 1 (.t 6)⟩,
     ⟨(some 8), none, .faddr 0 (.t 3)⟩,
     ⟨(some 9), none, .load false 1 (.t 8)⟩,
     ⟨(some 10), none, .bin .neq (.t 7) (.t 9)⟩,
     ⟨(some 11), none, .mov (.t 10)⟩,
     ⟨(some 12), (some (11, false)), .faddr 1 (.t 2)⟩,
     ⟨(some 13), (some (11, false)), .load false 1 (.t 12)⟩,
     ⟨(some 14), (some (11, false)), .faddr 1 (.t 3)⟩,
     ⟨(some 15), (some (11, false)), .load false 1 (.t 14)⟩,
     ⟨(some 16), (some (11, false)), .bin .neq (.t 13) (.t 15)⟩,
     ⟨(some 17), none, .pick (.t 11) (.c (.g (.bool true))) (.t 16)⟩,
     ⟨(some 18), none, .mov (.t 17)⟩,
     ⟨(some 19), (some (18, false)), .faddr 2 (.t 2)⟩,
     ⟨(some 20), (some (18, false)), .load false 1 (.t 19)⟩,
     ⟨(some 21), (some (18, false)), .faddr 2 (.t 3)⟩,
     ⟨(some 22), (some (18, false)), .load false 1 (.t 21)⟩,
     ⟨(some 23), (some (18, false)), .bin .neq (.t 20) (.t 22)⟩,
     ⟨(some 24), none, .pick (.t 18) (.c (.g (.bool true))) (.t 23)⟩,
     ⟨(some 25), none, .mov (.t 24)⟩,
     ⟨(some 26), (some (25, false)), .faddr 3 (.t 2)⟩,
     ⟨(some 27), (some (25, false)), .load false 1 (.t 26)⟩,
     ⟨(some 28), (some (25, false)), .faddr 3 (.t 3)⟩,
     ⟨(some 29), (some (25, false)), .load false 1 (.t 28)⟩,
     ⟨(some 30), (some (25, false)), .eqs true false [.b] (.t 27) (.t 29)⟩,
     ⟨(some 31), none, .pick (.t 25) (.c (.g (.bool true))) (.t 30)⟩,
     ⟨(some 32), none, .mov (.t 31)⟩,
     ⟨(some 33), (some (32, false)), .faddr 4 (.t 2)⟩,
     ⟨(some 34), (some (32, false)), .load false 1 (.t 33)⟩,
     ⟨(some 35), (some (32, false)), .faddr 4 (.t 3)⟩,
     ⟨(some 36), (some (32, false)), .load false 1 (.t 35)⟩,
     ⟨(some 37), (some (32, false)), .bin .neq (.t 34) (.t 36)⟩,
     ⟨(some 38), none, .pick (.t 32) (.c (.g (.bool true))) (.t 37)⟩,
     ⟨(some 39), none, .mov (.t 38)⟩,
     ⟨(some 40), (some (39, false)), .faddr 5 (.t 2)⟩,
     ⟨(some 41), (some (39, false)), .load false 1 (.t 40)⟩,
     ⟨(some 42), (some (39, false)), .faddr 5 (.t 3)⟩,
     ⟨(some 43), (some (39, false)), .load false 1 (.t 42)⟩,
     ⟨(some 44), (some (39, false)), .bin .neq (.t 41) (.t 43)⟩,
     ⟨(some 45), none, .pick (.t 39) (.c (.g (.bool true))) (.t 44)⟩,
     ⟨(some 46), none, .mov (.t 45)⟩,
     ⟨(some 47), (some (46, false)), .faddr 6 (.t 2)⟩,
     ⟨(some 48), (some (46, false)), .load false 1 (.t 47)⟩,
     ⟨(some 49), (some (46, false)), .faddr 6 (.t 3)⟩,
     ⟨(some 50), (some (46, false)), .load false 1 (.t 49)⟩,
     ⟨(some 51), (some (46, false)), .bin .neq (.t 48) (.t 50)⟩,
     ⟨(some 52), none, .pick (.t 46) (.c (.g (.bool true))) (.t 51)⟩,
     ⟨(some 53), none, .mov (.t 52)⟩,
     ⟨(some 54), (some (53, false)), .faddr 7 (.t 2)⟩,
     ⟨(some 55), (some (53, false)), .load false 1 (.t 54)⟩,
     ⟨(some 56), (some (53, false)), .faddr 7 (.t 3)⟩,
     ⟨(some 57), (some (53, false)), .load false 1 (.t 56)⟩,
     ⟨(some 58), (some (53, false)), .bin .neq (.t 55) (.t 57)⟩,
     ⟨(some 59), none, .pick (.t 53) (.c (.g (.bool true))) (.t 58)⟩,
     ⟨(some 60), none, .mov (.t 59)⟩,
     ⟨(some 61), (some (60, false)), .faddr 8 (.t 2)⟩,
     ⟨(some 62), (some (60, false)), .load false 1 (.t 61)⟩,
     ⟨(some 63), (some (60, false)), .faddr 8 (.t 3)⟩,
     ⟨(some 64), (some (60, false)), .load false 1 (.t 63)⟩,
     ⟨(some 65), (some (60, false)), .bin .neq (.t 62) (.t 64)⟩,
     ⟨(some 66), none, .pick (.t 60) (.c (.g (.bool true))) (.t 65)⟩,
     ⟨(some 67), none, .mov (.t 66)⟩,
     ⟨(some 68), (some (67, false)), .faddr 9 (.t 2)⟩,
     ⟨(some 69), (some (67, false)), .load false 1 (.t 68)⟩,
     ⟨(some 70), (some (67, false)), .faddr 9 (.t 3)⟩,
     ⟨(some 71), (some (67, false)), .load false 1 (.t 70)⟩,
     ⟨(some 72), (some (67, false)), .bin .neq (.t 69) (.t 71)⟩,
     ⟨(some 73), none, .pick (.t 67) (.c (.g (.bool true))) (.t 72)⟩,
     ⟨(some 74), none, .mov (.t 73)⟩,
     ⟨(some 75), (some (74, false)), .faddr 10 (.t 2)⟩,
     ⟨(some 76), (some (74, false)), .faddr 0 (.t 75)⟩,
     ⟨(some 77), (some (74, false)), .load false 1 (.t 76)⟩,
     ⟨(some 78), (some (74, false)), .len (.t 77)⟩,
     ⟨(some 79), (some (74, false)), .faddr 10 (.t 3)⟩,
     ⟨(some 80), (some (74, false)), .faddr 0 (.t 79)⟩,
     ⟨(some 81), (some (74, false)), .load false 1 (.t 80)⟩,
     ⟨(some 82), (some (74, false)), .len (.t 81)⟩,
     ⟨(some 83), (some (74, false)), .bin .neq (.t 78) (.t 82)⟩,
     ⟨(some 84), none, .pick (.t 74) (.c (.g (.bool true))) (.t 83)⟩]) <|
  .cond [2, 3] (.t 84)
   (.seq (.reg [4] [⟨(some 4), none, .mov (.c (.g (.bool false)))⟩]) <|
    .ret)
   (.skip)) <|
 .seq (.seq (.reg [2, 3, 5] [⟨(some 5), none, .mov (.c (.g (.int .i64 0)))⟩]) <|
  .block [2, 3] 0 <|
  .loop [2, 3, 5] [] L16_0) <|
 .seq (.reg [4] [⟨(some 106), none, .faddr 10 (.t 2)⟩,
    ⟨(some 107), none, .faddr 1 (.t 106)⟩,
    ⟨(some 108), none, .load false 1 (.t 107)⟩,
    ⟨(some 109), none, .faddr 10 (.t 3)⟩,
    ⟨(some 110), none, .faddr 1 (.t 109)⟩,
    ⟨(some 111), none, .load false 1 (.t 110)⟩,
    ⟨(some 112), none, .call (.c (.g (.fn 57))) [(.t 108), (.t 111)]⟩,
    ⟨(some 113), none, .mov (.t 112)⟩,
    ⟨(some 114), (some (113, true)), .faddr 10 (.t 2)⟩,
    ⟨(some 115), (some (113, true)), .faddr 2 (.t 114)⟩,
    ⟨(some 116), (some (113, true)), .load false 1 (.t 115)⟩,
    ⟨(some 117), (some (113, true)), .faddr 10 (.t 3)⟩,
    ⟨(some 118), (some (113, true)), .faddr 2 (.t 117)⟩,
    ⟨(some 119), (some (113, true)), .load false 1 (.t 118)⟩,
    ⟨(some 120), (some (113, true)), .call (.c (.g (.fn 57))) [(.t 116), (.t 119)]⟩,
    ⟨(some 121), none, .pick (.t 113) (.t 120) (.c (.g (.bool false)))⟩,
    ⟨(some 4), none, .mov (.t 121)⟩]) <|
 .ret⟩
def h16 : List (List Nat) := [[2, 3], [2, 3, 84], [2, 3], [4], [2, 3, 5], [2, 3], [2, 3, 5], [2, 3, 5, 90], [2, 3, 5], [2, 3, 5], [2, 3, 5, 105], [], [2, 3, 5], [4], [2, 3, 5], [4]]
theorem c16 : cFunc Try.prog 16 false h16 = some F16 := by kernel_rfl

/-- baton/batonref03.Few -/
def L17_0 : IC :=
 .seq (.seq (.reg [0, 5, 13] [⟨(some 10), none, .mov (.t 5)⟩,
     ⟨(some 11), none, .mov (.t 0)⟩,
     ⟨(some 12), none, .len (.t 11)⟩,
     ⟨(some 13), none, .bin .lss (.t 10) (.t 12)⟩]) <|
  .cond [0, 5] (.t 13)
   (.skip)
   (.exit 0)) <|
 .seq (.block [0, 5] 1 <|
  .seq (.reg [0, 5, 31] [⟨(some 16), none, .mov (.t 0)⟩,
     ⟨(some 17), none, .mov (.t 5)⟩,
     ⟨(some 18), none, .iaddr 6 (.t 16) (.t 17)⟩,
     ⟨(some 19), none, .faddr 0 (.t 18)⟩,
     ⟨(some 20), none, .load false 1 (.t 19)⟩,
     ⟨(some 21), none, .lenS (.t 20)⟩,
     ⟨(some 22), none, .bin .gtr (.t 21) (.c (.g (.int .i64 60)))⟩,
     ⟨(some 23), none, .mov (.t 22)⟩,
     ⟨(some 24), (some (23, false)), .mov (.t 0)⟩,
     ⟨(some 25), (some (23, false)), .mov (.t 5)⟩,
     ⟨(some 26), (some (23, false)), .iaddr 6 (.t 24) (.t 25)⟩,
     ⟨(some 27), (some (23, false)), .faddr 1 (.t 26)⟩,
     ⟨(some 28), (some (23, false)), .load false 1 (.t 27)⟩,
     ⟨(some 29), (some (23, false)), .lenS (.t 28)⟩,
     ⟨(some 30), (some (23, false)), .bin .gtr (.t 29) (.c (.g (.int .i64 60)))⟩,
     ⟨(some 31), none, .pick (.t 23) (.c (.g (.bool true))) (.t 30)⟩]) <|
  .cond [0, 5] (.t 31)
   (.seq (.reg [4] [⟨(some 4), none, .mov (.c (.g (.bool false)))⟩]) <|
    .ret)
   (.skip)) <|
 .reg [0, 5] [⟨(some 14), none, .mov (.t 5)⟩,
   ⟨(some 15), none, .bin .add (.t 14) (.c (.g (.int .i64 1)))⟩,
   ⟨(some 5), none, .mov (.t 15)⟩]
def F17 : IFunc := ⟨2, 32, [.tmp 4], false,
 .seq (.reg [0, 1] [⟨(some 4), none, .mov (.c (.g (.bool false)))⟩]) <|
 .seq (.seq (.reg [0, 9] [⟨(some 6), none, .mov (.t 0)⟩,
     ⟨(some 7), none, .len (.t 6)⟩,
     ⟨(some 8), none, .mov (.t 1)⟩,
     ⟨(some 9), none, .bin .gtr (.t 7) (.t 8)⟩]) <|
  .cond [0] (.t 9)
   (.seq (.reg [4] [⟨(some 4), none, .mov (.c (.g (.bool false)))⟩]) <|
    .ret)
   (.skip)) <|
 .seq (.seq (.reg [0, 5] [⟨(some 5), none, .mov (.c (.g (.int .i64 0)))⟩]) <|
  .block [] 0 <|
  .loop [0, 5] [] L17_0) <|
 .seq (.reg [4] [⟨(some 4), none, .mov (.c (.g (.bool true)))⟩]) <|
 .ret⟩
def h17 : List (List Nat) := [[0, 1], [0, 9], [0], [4], [0, 5], [], [0, 5], [0, 5, 13], [0, 5], [0, 5], [0, 5, 31], [0, 5], [4], [0, 5], [4]]
theorem c17 : cFunc Try.prog 17 false h17 = some F17 := by kernel_rfl

/-- baton/batonref03.FewEvents -/
def L18_0 : IC :=
 .seq (.seq (.reg [0, 5, 13] [⟨(some 10), none, .mov (.t 5)⟩,
     ⟨(some 11), none, .mov (.t 0)⟩,
     ⟨(some 12), none, .len (.t 11)⟩,
     ⟨(some 13), none, .bin .lss (.t 10) (.t 12)⟩]) <|
  .cond [0, 5] (.t 13)
   (.skip)
   (.exit 0)) <|
 .seq (.block [0, 5] 1 <|
  .seq (.reg [0, 5, 33] [⟨(some 16), none, .mov (.t 0)⟩,
     ⟨(some 17), none, .mov (.t 5)⟩,
     ⟨(some 18), none, .iaddr 8 (.t 16) (.t 17)⟩,
     ⟨(some 19), none, .faddr 2 (.t 18)⟩,
     ⟨(some 20), none, .faddr 0 (.t 19)⟩,
     ⟨(some 21), none, .load false 1 (.t 20)⟩,
     ⟨(some 22), none, .lenS (.t 21)⟩,
     ⟨(some 23), none, .bin .gtr (.t 22) (.c (.g (.int .i64 60)))⟩,
     ⟨(some 24), none, .mov (.t 23)⟩,
     ⟨(some 25), (some (24, false)), .mov (.t 0)⟩,
     ⟨(some 26), (some (24, false)), .mov (.t 5)⟩,
     ⟨(some 27), (some (24, false)), .iaddr 8 (.t 25) (.t 26)⟩,
     ⟨(some 28), (some (24, false)), .faddr 2 (.t 27)⟩,
     ⟨(some 29), (some (24, false)), .faddr 1 (.t 28)⟩,
     ⟨(some 30), (some (24, false)), .load false 1 (.t 29)⟩,
     ⟨(some 31), (some (24, false)), .lenS (.t 30)⟩,
     ⟨(some 32), (some (24, false)), .bin .gtr (.t 31) (.c (.g (.int .i64 60)))⟩,
     ⟨(some 33), none, .pick (.t 24) (.c (.g (.bool true))) (.t 32)⟩]) <|
  .cond [0, 5] (.t 33)
   (.seq (.reg [4] [⟨(some 4), none, .mov (.c (.g (.bool false)))⟩]) <|
    .ret)
   (.skip)) <|
 .reg [0, 5] [⟨(some 14), none, .mov (.t 5)⟩,
   ⟨(some 15), none, .bin .add (.t 14) (.c (.g (.int .i64 1)))⟩,
   ⟨(some 5), none, .mov (.t 15)⟩]
def F18 : IFunc := ⟨2, 34, [.tmp 4], false,
 .seq (.reg [0, 1] [⟨(some 4), none, .mov (.c (.g (.bool false)))⟩]) <|
 .seq (.seq (.reg [0, 9] [⟨(some 6), none, .mov (.t 0)⟩,
     ⟨(some 7), none, .len (.t 6)⟩,
     ⟨(some 8), none, .mov (.t 1)⟩,
     ⟨(some 9), none, .bin .gtr (.t 7) (.t 8)⟩]) <|
  .cond [0] (.t 9)
   (.seq (.reg [4] [⟨(some 4), none, .mov (.c (.g (.bool false)))⟩]) <|
    .ret)
   (.skip)) <|
 .seq (.seq (.reg [0, 5] [⟨(some 5), none, .mov (.c (.g (.int .i64 0)))⟩]) <|
  .block [] 0 <|
  .loop [0, 5] [] L18_0) <|
 .seq (.reg [4] [⟨(some 4), none, .mov (.c (.g (.bool true)))⟩]) <|
 .ret⟩
def h18 : List (List Nat) := [[0, 1], [0, 9], [0], [4], [0, 5], [], [0, 5], [0, 5, 13], [0, 5], [0, 5], [0, 5, 33], [0, 5], [4], [0, 5], [4]]
theorem c18 : cFunc Try.prog 18 false h18 = some F18 := by kernel_rfl

/-- baton/wire.Tell -/
def L19_0 : IC :=
 .seq (.reg [1, 4, 35, 36, 37, 38] [⟨(some 38), none, .bin .lss (.t 37) (.t 36)⟩]) <|
 .seq (.cond [1, 4, 35, 36, 37] (.t 38)
   (.skip)
   (.exit 0)) <|
 .seq (.block [1, 4, 35, 36, 37] 1 <|
  .seq (.reg [1, 4, 6, 35, 36, 37] [⟨(some 39), none, .iaddr 6 (.t 35) (.t 37)⟩,
     ⟨(some 40), none, .load true 6 (.t 39)⟩,
     ⟨(some 6), none, .alloc [.z (.str []), .z (.str []), .z (.int .i64 0), .z (.int .i64 0), .z (.int .i64 0), .z (.int .i64 0)]⟩,
     ⟨none, none, .store 6 (.t 6) (.t 40)⟩]) <|
  .reg [1, 4, 35, 36, 37] [⟨(some 41), none, .load true 6 (.t 6)⟩,
    ⟨(some 42), none, .call (.c (.g (.fn 58))) [(.t 4), (.t 41)]⟩]) <|
 .reg [1, 4, 35, 36, 37] [⟨(some 43), none, .bin .add (.t 37) (.c (.g (.int .i64 1)))⟩,
   ⟨(some 37), none, .mov (.t 43)⟩]
def L19_1 : IC :=
 .seq (.reg [4, 50, 51, 52, 53] [⟨(some 53), none, .bin .lss (.t 52) (.t 51)⟩]) <|
 .seq (.cond [4, 50, 51, 52] (.t 53)
   (.skip)
   (.exit 2)) <|
 .seq (.block [4, 50, 51, 52] 3 <|
  .seq (.reg [4, 8, 50, 51, 52] [⟨(some 54), none, .iaddr 8 (.t 50) (.t 52)⟩,
     ⟨(some 55), none, .load true 8 (.t 54)⟩,
     ⟨(some 8), none, .alloc [.z (.int .i64 0), .z (.bool false), .z (.str []), .z (.str []), .z (.int .i64 0), .z (.int .i64 0), .z (.int .i64 0), .z (.int .i64 0)]⟩,
     ⟨none, none, .store 8 (.t 8) (.t 55)⟩]) <|
  .seq (.reg [4, 8, 50, 51, 52] [⟨(some 56), none, .faddr 0 (.t 8)⟩,
     ⟨(some 57), none, .load false 1 (.t 56)⟩,
     ⟨(some 58), none, .bslice 1 1 [.int .i64 0] [(0, 1, (.t 57))]⟩,
     ⟨(some 59), none, .call (.c (.g (.fn 27))) [(.t 4), (.t 58)]⟩]) <|
  .seq (.reg [4, 8, 50, 51, 52] [⟨(some 60), none, .faddr 1 (.t 8)⟩,
     ⟨(some 61), none, .load false 1 (.t 60)⟩,
     ⟨(some 62), none, .call (.c (.g (.fn 28))) [(.t 4), (.t 61)]⟩]) <|
  .reg [4, 50, 51, 52] [⟨(some 63), none, .faddr 2 (.t 8)⟩,
    ⟨(some 64), none, .load true 6 (.t 63)⟩,
    ⟨(some 65), none, .call (.c (.g (.fn 58))) [(.t 4), (.t 64)]⟩]) <|
 .reg [4, 50, 51, 52] [⟨(some 66), none, .bin .add (.t 52) (.c (.g (.int .i64 1)))⟩,
   ⟨(some 52), none, .mov (.t 66)⟩]
def F19 : IFunc := ⟨1, 69, [.tmp 2, .tmp 3], false,
 .seq (.reg [1] [⟨(some 1), none, .box (.t 0)⟩,
    ⟨(some 2), none, .mov (.c (.g (.str [])))⟩,
    ⟨(some 3), none, .mov (.c (.g (.bool false)))⟩]) <|
 .seq (.seq (.reg [1, 11] [⟨(some 9), none, .load true 9 (.t 1)⟩,
     ⟨(some 10), none, .call (.c (.g (.fn 23))) [(.t 9)]⟩,
     ⟨(some 11), none, .un .not (.t 10)⟩]) <|
  .cond [1] (.t 11)
   (.seq (.reg [2, 3] [⟨(some 2), none, .mov (.c (.g (.str [])))⟩,
       ⟨(some 3), none, .mov (.c (.g (.bool false)))⟩]) <|
    .ret)
   (.skip)) <|
 .seq (.reg [1, 4] [⟨(some 4), none, .allocT 60 5 [.z (.nptr), .s 1]⟩]) <|
 .seq (.reg [1, 4] [⟨(some 12), none, .faddr 0 (.t 1)⟩,
    ⟨(some 13), none, .load false 1 (.t 12)⟩,
    ⟨(some 14), none, .faddr 1 (.t 1)⟩,
    ⟨(some 15), none, .load false 1 (.t 14)⟩,
    ⟨(some 16), none, .faddr 2 (.t 1)⟩,
    ⟨(some 17), none, .load false 1 (.t 16)⟩,
    ⟨(some 18), none, .faddr 3 (.t 1)⟩,
    ⟨(some 19), none, .load false 1 (.t 18)⟩,
    ⟨(some 20), none, .faddr 4 (.t 1)⟩,
    ⟨(some 21), none, .load false 1 (.t 20)⟩,
    ⟨(some 22), none, .faddr 5 (.t 1)⟩,
    ⟨(some 23), none, .load false 1 (.t 22)⟩,
    ⟨(some 24), none, .bslice 1 7 [.int .i64 0] [(0, 1, (.c (.g (.int .i64 2)))), (1, 1, (.t 13)), (2, 1, (.t 15)), (3, 1, (.t 17)), (4, 1, (.t 19)), (5, 1, (.t 21)), (6, 1, (.t 23))]⟩,
    ⟨(some 25), none, .call (.c (.g (.fn 27))) [(.t 4), (.t 24)]⟩]) <|
 .seq (.reg [1, 4] [⟨(some 26), none, .faddr 6 (.t 1)⟩,
    ⟨(some 27), none, .load false 1 (.t 26)⟩,
    ⟨(some 28), none, .call (.c (.g (.fn 28))) [(.t 4), (.t 27)]⟩]) <|
 .seq (.reg [1, 4] [⟨(some 29), none, .faddr 7 (.t 1)⟩,
    ⟨(some 30), none, .load false 1 (.t 29)⟩,
    ⟨(some 31), none, .len (.t 30)⟩,
    ⟨(some 32), none, .bslice 1 1 [.int .i64 0] [(0, 1, (.t 31))]⟩,
    ⟨(some 33), none, .call (.c (.g (.fn 27))) [(.t 4), (.t 32)]⟩]) <|
 .seq (.seq (.reg [1, 4, 35, 36, 37] [⟨(some 34), none, .faddr 7 (.t 1)⟩,
     ⟨(some 35), none, .load false 1 (.t 34)⟩,
     ⟨(some 36), none, .len (.t 35)⟩,
     ⟨(some 37), none, .mov (.c (.g (.int .i64 0)))⟩]) <|
  .block [1, 4] 0 <|
  .loop [1, 4, 35, 36, 37] [] L19_0) <|
 .seq (.reg [1, 4] [⟨(some 44), none, .faddr 8 (.t 1)⟩,
    ⟨(some 45), none, .load false 1 (.t 44)⟩,
    ⟨(some 46), none, .len (.t 45)⟩,
    ⟨(some 47), none, .bslice 1 1 [.int .i64 0] [(0, 1, (.t 46))]⟩,
    ⟨(some 48), none, .call (.c (.g (.fn 27))) [(.t 4), (.t 47)]⟩]) <|
 .seq (.seq (.reg [4, 50, 51, 52] [⟨(some 49), none, .faddr 8 (.t 1)⟩,
     ⟨(some 50), none, .load false 1 (.t 49)⟩,
     ⟨(some 51), none, .len (.t 50)⟩,
     ⟨(some 52), none, .mov (.c (.g (.int .i64 0)))⟩]) <|
  .block [4] 2 <|
  .loop [4, 50, 51, 52] [] L19_1) <|
 .seq (.reg [2, 3] [⟨(some 67), none, .faddr 0 (.t 4)⟩,
    ⟨(some 68), none, .call (.c (.g (.fn 31))) [(.t 67)]⟩,
    ⟨(some 2), none, .mov (.t 68)⟩,
    ⟨(some 3), none, .mov (.c (.g (.bool true)))⟩]) <|
 .ret⟩
def h19 : List (List Nat) := [[1], [1, 11], [1], [2, 3], [1, 4], [1, 4], [1, 4], [1, 4], [1, 4, 35, 36, 37], [1, 4], [1, 4, 35, 36, 37], [1, 4, 35, 36, 37, 38], [1, 4, 35, 36, 37], [1, 4, 35, 36, 37], [1, 4, 6, 35, 36, 37], [1, 4, 35, 36, 37], [1, 4, 35, 36, 37], [1, 4], [4, 50, 51, 52], [4], [4, 50, 51, 52], [4, 50, 51, 52, 53], [4, 50, 51, 52], [4, 50, 51, 52], [4, 8, 50, 51, 52], [4, 8, 50, 51, 52], [4, 8, 50, 51, 52], [4, 50, 51, 52], [4, 50, 51, 52], [2, 3]]
theorem c19 : cFunc Try.prog 19 false h19 = some F19 := by kernel_rfl

/-- baton/batonref03.Tell -/
def L20_0 : IC :=
 .seq (.seq (.reg [1, 4, 5, 47] [⟨(some 43), none, .mov (.t 5)⟩,
     ⟨(some 44), none, .faddr 7 (.t 1)⟩,
     ⟨(some 45), none, .load false 1 (.t 44)⟩,
     ⟨(some 46), none, .len (.t 45)⟩,
     ⟨(some 47), none, .bin .lss (.t 43) (.t 46)⟩]) <|
  .cond [1, 4, 5] (.t 47)
   (.skip)
   (.exit 0)) <|
 .seq (.block [1, 4, 5] 1 <|
  .reg [1, 4, 5] [⟨(some 50), none, .mov (.t 4)⟩,
    ⟨(some 51), none, .faddr 7 (.t 1)⟩,
    ⟨(some 52), none, .load false 1 (.t 51)⟩,
    ⟨(some 53), none, .mov (.t 5)⟩,
    ⟨(some 54), none, .iaddr 6 (.t 52) (.t 53)⟩,
    ⟨(some 55), none, .load true 6 (.t 54)⟩,
    ⟨(some 56), none, .call (.c (.g (.fn 59))) [(.t 55)]⟩,
    ⟨(some 57), none, .bin .add (.t 50) (.t 56)⟩,
    ⟨(some 4), none, .mov (.t 57)⟩]) <|
 .reg [1, 4, 5] [⟨(some 48), none, .mov (.t 5)⟩,
   ⟨(some 49), none, .bin .add (.t 48) (.c (.g (.int .i64 1)))⟩,
   ⟨(some 5), none, .mov (.t 49)⟩]
def L20_1 : IC :=
 .seq (.seq (.reg [1, 4, 6, 68] [⟨(some 64), none, .mov (.t 6)⟩,
     ⟨(some 65), none, .faddr 8 (.t 1)⟩,
     ⟨(some 66), none, .load false 1 (.t 65)⟩,
     ⟨(some 67), none, .len (.t 66)⟩,
     ⟨(some 68), none, .bin .lss (.t 64) (.t 67)⟩]) <|
  .cond [1, 4, 6] (.t 68)
   (.skip)
   (.exit 2)) <|
 .seq (.block [1, 4, 6] 3 <|
  .drw [1, 4, 6] 0 <|
  .take ⟨(some 71), none, .mov (.t 4)⟩ <|
  .take ⟨(some 72), none, .faddr 8 (.t 1)⟩ <|
  .take ⟨(some 73), none, .load false 1 (.t 72)⟩ <|
  .take ⟨(some 74), none, .mov (.t 6)⟩ <|
  .take ⟨(some 75), none, .iaddr 8 (.t 73) (.t 74)⟩ <|
  .take ⟨(some 76), none, .faddr 0 (.t 75)⟩ <|
  .take ⟨(some 77), none, .load false 1 (.t 76)⟩ <|
  .take ⟨(some 80), none, .faddr 8 (.t 1)⟩ <|
  .take ⟨(some 81), none, .load false 1 (.t 80)⟩ <|
  .take ⟨(some 82), none, .mov (.t 6)⟩ <|
  .take ⟨(some 83), none, .iaddr 8 (.t 81) (.t 82)⟩ <|
  .take ⟨(some 84), none, .faddr 1 (.t 83)⟩ <|
  .take ⟨(some 85), none, .load false 1 (.t 84)⟩ <|
  .take ⟨(some 88), none, .faddr 8 (.t 1)⟩ <|
  .take ⟨(some 89), none, .load false 1 (.t 88)⟩ <|
  .take ⟨(some 90), none, .mov (.t 6)⟩ <|
  .take ⟨(some 91), none, .iaddr 8 (.t 89) (.t 90)⟩ <|
  .take ⟨(some 92), none, .faddr 2 (.t 91)⟩ <|
  .take ⟨(some 93), none, .load true 6 (.t 92)⟩ <|
  .one ⟨(some 78), none, .call (.c (.g (.fn 32))) [(.t 77)]⟩ <|
  .take ⟨(some 79), none, .bin .add (.t 71) (.t 78)⟩ <|
  .one ⟨(some 86), none, .call (.c (.g (.fn 33))) [(.t 85)]⟩ <|
  .take ⟨(some 87), none, .bin .add (.t 79) (.t 86)⟩ <|
  .one ⟨(some 94), none, .call (.c (.g (.fn 59))) [(.t 93)]⟩ <|
  .take ⟨(some 95), none, .bin .add (.t 87) (.t 94)⟩ <|
  .free <|
  .take ⟨(some 4), none, .mov (.t 95)⟩ <|
  .leaf) <|
 .reg [1, 4, 6] [⟨(some 69), none, .mov (.t 6)⟩,
   ⟨(some 70), none, .bin .add (.t 69) (.c (.g (.int .i64 1)))⟩,
   ⟨(some 6), none, .mov (.t 70)⟩]
def F20 : IFunc := ⟨1, 97, [.tmp 2, .tmp 3], false,
 .seq (.reg [1] [⟨(some 1), none, .box (.t 0)⟩,
    ⟨(some 2), none, .mov (.c (.g (.str [])))⟩,
    ⟨(some 3), none, .mov (.c (.g (.bool false)))⟩]) <|
 .seq (.seq (.reg [1, 9] [⟨(some 7), none, .load true 9 (.t 1)⟩,
     ⟨(some 8), none, .call (.c (.g (.fn 24))) [(.t 7)]⟩,
     ⟨(some 9), none, .un .not (.t 8)⟩]) <|
  .cond [1] (.t 9)
   (.seq (.reg [2, 3] [⟨(some 2), none, .mov (.c (.g (.str [])))⟩,
       ⟨(some 3), none, .mov (.c (.g (.bool false)))⟩]) <|
    .ret)
   (.skip)) <|
 .seq (.drw [1, 4] 0 <|
  .take ⟨(some 10), none, .faddr 0 (.t 1)⟩ <|
  .take ⟨(some 11), none, .load false 1 (.t 10)⟩ <|
  .take ⟨(some 14), none, .faddr 1 (.t 1)⟩ <|
  .take ⟨(some 15), none, .load false 1 (.t 14)⟩ <|
  .take ⟨(some 18), none, .faddr 2 (.t 1)⟩ <|
  .take ⟨(some 19), none, .load false 1 (.t 18)⟩ <|
  .take ⟨(some 22), none, .faddr 3 (.t 1)⟩ <|
  .take ⟨(some 23), none, .load false 1 (.t 22)⟩ <|
  .take ⟨(some 26), none, .faddr 4 (.t 1)⟩ <|
  .take ⟨(some 27), none, .load false 1 (.t 26)⟩ <|
  .take ⟨(some 30), none, .faddr 5 (.t 1)⟩ <|
  .take ⟨(some 31), none, .load false 1 (.t 30)⟩ <|
  .take ⟨(some 34), none, .faddr 6 (.t 1)⟩ <|
  .take ⟨(some 35), none, .load false 1 (.t 34)⟩ <|
  .take ⟨(some 38), none, .faddr 7 (.t 1)⟩ <|
  .take ⟨(some 39), none, .load false 1 (.t 38)⟩ <|
  .take ⟨(some 40), none, .len (.t 39)⟩ <|
  .one ⟨(some 12), none, .call (.c (.g (.fn 32))) [(.t 11)]⟩ <|
  .take ⟨(some 13), none, .bin .add (.c (.g (.str [2]))) (.t 12)⟩ <|
  .one ⟨(some 16), none, .call (.c (.g (.fn 32))) [(.t 15)]⟩ <|
  .take ⟨(some 17), none, .bin .add (.t 13) (.t 16)⟩ <|
  .one ⟨(some 20), none, .call (.c (.g (.fn 32))) [(.t 19)]⟩ <|
  .take ⟨(some 21), none, .bin .add (.t 17) (.t 20)⟩ <|
  .one ⟨(some 24), none, .call (.c (.g (.fn 32))) [(.t 23)]⟩ <|
  .take ⟨(some 25), none, .bin .add (.t 21) (.t 24)⟩ <|
  .one ⟨(some 28), none, .call (.c (.g (.fn 32))) [(.t 27)]⟩ <|
  .take ⟨(some 29), none, .bin .add (.t 25) (.t 28)⟩ <|
  .one ⟨(some 32), none, .call (.c (.g (.fn 32))) [(.t 31)]⟩ <|
  .take ⟨(some 33), none, .bin .add (.t 29) (.t 32)⟩ <|
  .one ⟨(some 36), none, .call (.c (.g (.fn 33))) [(.t 35)]⟩ <|
  .take ⟨(some 37), none, .bin .add (.t 33) (.t 36)⟩ <|
  .one ⟨(some 41), none, .call (.c (.g (.fn 32))) [(.t 40)]⟩ <|
  .take ⟨(some 42), none, .bin .add (.t 37) (.t 41)⟩ <|
  .free <|
  .take ⟨(some 4), none, .mov (.t 42)⟩ <|
  .leaf) <|
 .seq (.seq (.reg [1, 4, 5] [⟨(some 5), none, .mov (.c (.g (.int .i64 0)))⟩]) <|
  .block [1, 4] 0 <|
  .loop [1, 4, 5] [] L20_0) <|
 .seq (.reg [1, 4] [⟨(some 58), none, .mov (.t 4)⟩,
    ⟨(some 59), none, .faddr 8 (.t 1)⟩,
    ⟨(some 60), none, .load false 1 (.t 59)⟩,
    ⟨(some 61), none, .len (.t 60)⟩,
    ⟨(some 62), none, .call (.c (.g (.fn 32))) [(.t 61)]⟩,
    ⟨(some 63), none, .bin .add (.t 58) (.t 62)⟩,
    ⟨(some 4), none, .mov (.t 63)⟩]) <|
 .seq (.seq (.reg [1, 4, 6] [⟨(some 6), none, .mov (.c (.g (.int .i64 0)))⟩]) <|
  .block [4] 2 <|
  .loop [1, 4, 6] [] L20_1) <|
 .seq (.reg [2, 3] [⟨(some 96), none, .mov (.t 4)⟩,
    ⟨(some 2), none, .mov (.t 96)⟩,
    ⟨(some 3), none, .mov (.c (.g (.bool true)))⟩]) <|
 .ret⟩
def h20 : List (List Nat) := [[1], [1, 9], [1], [2, 3], [1, 4], [], [1, 4, 5], [1, 4], [1, 4, 5], [1, 4, 5, 47], [1, 4, 5], [1, 4, 5], [1, 4, 5], [1, 4, 5], [1, 4], [1, 4, 6], [4], [1, 4, 6], [1, 4, 6, 68], [1, 4, 6], [1, 4, 6], [1, 4, 6], [], [1, 4, 6], [2, 3]]
theorem c20 : cFunc Try.prog 20 false h20 = some F20 := by kernel_rfl

/-- baton/wire.Told -/
def F21 : IFunc := ⟨1, 51, [.cell 2 true 9, .tmp 3], false,
 .seq (.reg [0, 2] [⟨(some 2), none, .alloc [.z (.int .i64 0), .z (.int .i64 0), .z (.int .i64 0), .z (.int .i64 0), .z (.int .i64 0), .z (.int .i64 0), .z (.bool false), .s 6, .s 8]⟩,
    ⟨(some 3), none, .mov (.c (.g (.bool false)))⟩]) <|
 .seq (.reg [2, 4] [⟨(some 7), none, .mov (.t 0)⟩,
    ⟨(some 8), none, .build [.g (.str []), .g (.bool false)] [(0, 1, (.t 7))]⟩,
    ⟨(some 9), none, .box (.t 8)⟩,
    ⟨(some 4), none, .mov (.t 9)⟩]) <|
 .seq (.reg [2, 4, 5] [⟨(some 10), none, .mov (.t 4)⟩,
    ⟨(some 11), none, .call (.c (.g (.fn 36))) [(.t 10)]⟩,
    ⟨(some 5), none, .mov (.t 11)⟩]) <|
 .seq (.reg [2, 4, 5, 6] [⟨(some 12), none, .mov (.t 4)⟩,
    ⟨(some 13), none, .call (.c (.g (.fn 36))) [(.t 12)]⟩,
    ⟨(some 14), none, .mov (.t 4)⟩,
    ⟨(some 15), none, .call (.c (.g (.fn 36))) [(.t 14)]⟩,
    ⟨(some 16), none, .mov (.t 4)⟩,
    ⟨(some 17), none, .call (.c (.g (.fn 36))) [(.t 16)]⟩,
    ⟨(some 18), none, .mov (.t 4)⟩,
    ⟨(some 19), none, .call (.c (.g (.fn 36))) [(.t 18)]⟩,
    ⟨(some 20), none, .mov (.t 4)⟩,
    ⟨(some 21), none, .call (.c (.g (.fn 36))) [(.t 20)]⟩,
    ⟨(some 22), none, .mov (.t 4)⟩,
    ⟨(some 23), none, .call (.c (.g (.fn 36))) [(.t 22)]⟩,
    ⟨(some 24), none, .mov (.t 4)⟩,
    ⟨(some 25), none, .call (.c (.g (.fn 37))) [(.t 24)]⟩,
    ⟨(some 26), none, .build [.g (.int .i64 0), .g (.int .i64 0), .g (.int .i64 0), .g (.int .i64 0), .g (.int .i64 0), .g (.int .i64 0), .g (.bool false), .g (.nsl), .g (.nsl)] [(0, 1, (.t 13)), (1, 1, (.t 15)), (2, 1, (.t 17)), (3, 1, (.t 19)), (4, 1, (.t 21)), (5, 1, (.t 23)), (6, 1, (.t 25))]⟩,
    ⟨(some 6), none, .alloc [.z (.int .i64 0), .z (.int .i64 0), .z (.int .i64 0), .z (.int .i64 0), .z (.int .i64 0), .z (.int .i64 0), .z (.bool false), .s 6, .s 8]⟩,
    ⟨none, none, .store 9 (.t 6) (.t 26)⟩]) <|
 .seq (.reg [2, 4, 5, 6] [⟨(some 27), none, .mov (.t 4)⟩,
    ⟨(some 28), none, .mov (.t 4)⟩,
    ⟨(some 29), none, .mkbv 61 [(.t 28)]⟩,
    ⟨(some 30), none, .call (.c (.g (.fn 60))) [(.t 27), (.c (.g (.int .i64 30))), (.t 29)]⟩,
    ⟨(some 31), none, .faddr 7 (.t 6)⟩,
    ⟨none, none, .store 1 (.t 31) (.t 30)⟩]) <|
 .seq (.reg [2, 4, 5, 6] [⟨(some 32), none, .mov (.t 4)⟩,
    ⟨(some 33), none, .mov (.t 4)⟩,
    ⟨(some 34), none, .mkbv 63 [(.t 33)]⟩,
    ⟨(some 35), none, .call (.c (.g (.fn 62))) [(.t 32), (.c (.g (.int .i64 30))), (.t 34)]⟩,
    ⟨(some 36), none, .faddr 8 (.t 6)⟩,
    ⟨none, none, .store 1 (.t 36) (.t 35)⟩]) <|
 .seq (.seq (.reg [2, 6, 48] [⟨(some 37), none, .mov (.t 4)⟩,
     ⟨(some 38), none, .call (.c (.g (.fn 43))) [(.t 37)]⟩,
     ⟨(some 39), none, .un .not (.t 38)⟩,
     ⟨(some 40), none, .mov (.t 39)⟩,
     ⟨(some 41), (some (40, false)), .mov (.t 5)⟩,
     ⟨(some 42), (some (40, false)), .bin .neq (.t 41) (.c (.g (.int .i64 2)))⟩,
     ⟨(some 43), none, .pick (.t 40) (.c (.g (.bool true))) (.t 42)⟩,
     ⟨(some 44), none, .mov (.t 43)⟩,
     ⟨(some 45), (some (44, false)), .load true 9 (.t 6)⟩,
     ⟨(some 46), (some (44, false)), .call (.c (.g (.fn 23))) [(.t 45)]⟩,
     ⟨(some 47), (some (44, false)), .un .not (.t 46)⟩,
     ⟨(some 48), none, .pick (.t 44) (.c (.g (.bool true))) (.t 47)⟩]) <|
  .cond [2, 6] (.t 48)
   (.seq (.reg [2, 3] [⟨(some 49), none, .build [.g (.int .i64 0), .g (.int .i64 0), .g (.int .i64 0), .g (.int .i64 0), .g (.int .i64 0), .g (.int .i64 0), .g (.bool false), .g (.nsl), .g (.nsl)] []⟩,
       ⟨none, none, .store 9 (.t 2) (.t 49)⟩,
       ⟨(some 3), none, .mov (.c (.g (.bool false)))⟩]) <|
    .ret)
   (.skip)) <|
 .seq (.reg [2, 3] [⟨(some 50), none, .load true 9 (.t 6)⟩,
    ⟨none, none, .store 9 (.t 2) (.t 50)⟩,
    ⟨(some 3), none, .mov (.c (.g (.bool true)))⟩]) <|
 .ret⟩
def h21 : List (List Nat) := [[0, 2], [2, 4], [2, 4, 5], [2, 4, 5, 6], [2, 4, 5, 6], [2, 4, 5, 6], [2, 6, 48], [2, 6], [2, 3], [2, 3]]
theorem c21 : cFunc Try.prog 21 false h21 = some F21 := by kernel_rfl

/-- baton/batonref03.Told -/
def L22_0 : IC :=
 .seq (.seq (.reg [0, 2, 4, 5, 6, 7, 55] [⟨(some 42), none, .mov (.t 7)⟩,
     ⟨(some 43), none, .mov (.t 6)⟩,
     ⟨(some 44), none, .bin .lss (.t 42) (.t 43)⟩,
     ⟨(some 45), none, .mov (.t 44)⟩,
     ⟨(some 46), (some (45, true)), .mov (.t 4)⟩,
     ⟨(some 47), (some (45, true)), .nilchk (.t 46)⟩,
     ⟨(some 48), (some (45, true)), .faddr 2 (.t 47)⟩,
     ⟨(some 49), (some (45, true)), .load false 1 (.t 48)⟩,
     ⟨(some 50), (some (45, true)), .un .not (.t 49)⟩,
     ⟨(some 51), none, .pick (.t 45) (.t 50) (.c (.g (.bool false)))⟩,
     ⟨(some 52), none, .mov (.t 51)⟩,
     ⟨(some 53), (some (52, true)), .mov (.t 7)⟩,
     ⟨(some 54), (some (52, true)), .bin .leq (.t 53) (.c (.g (.int .i64 30)))⟩,
     ⟨(some 55), none, .pick (.t 52) (.t 54) (.c (.g (.bool false)))⟩]) <|
  .cond [0, 2, 4, 5, 6, 7] (.t 55)
   (.skip)
   (.exit 0)) <|
 .seq (.block [0, 2, 4, 5, 6, 7] 1 <|
  .drw [0, 2, 4, 5, 6, 7] 0 <|
  .take ⟨(some 58), none, .faddr 7 (.t 5)⟩ <|
  .take ⟨(some 59), none, .load false 1 (.t 58)⟩ <|
  .take ⟨(some 60), none, .mov (.t 4)⟩ <|
  .one ⟨(some 61), none, .call (.c (.g (.fn 64))) [(.t 60)]⟩ <|
  .one ⟨(some 62), none, .bslice 6 1 [.str [], .str [], .int .i64 0, .int .i64 0, .int .i64 0, .int .i64 0] [(0, 6, (.t 61))]⟩ <|
  .free <|
  .one ⟨(some 63), none, .app 6 64 (.t 59) (.t 62)⟩ <|
  .take ⟨(some 64), none, .faddr 7 (.t 5)⟩ <|
  .one ⟨none, none, .store 1 (.t 64) (.t 63)⟩ <|
  .leaf) <|
 .reg [0, 2, 4, 5, 6, 7] [⟨(some 56), none, .mov (.t 7)⟩,
   ⟨(some 57), none, .bin .add (.t 56) (.c (.g (.int .i64 1)))⟩,
   ⟨(some 7), none, .mov (.t 57)⟩]
def L22_1 : IC :=
 .seq (.seq (.reg [0, 2, 4, 5, 6, 8, 80] [⟨(some 67), none, .mov (.t 8)⟩,
     ⟨(some 68), none, .mov (.t 6)⟩,
     ⟨(some 69), none, .bin .lss (.t 67) (.t 68)⟩,
     ⟨(some 70), none, .mov (.t 69)⟩,
     ⟨(some 71), (some (70, true)), .mov (.t 4)⟩,
     ⟨(some 72), (some (70, true)), .nilchk (.t 71)⟩,
     ⟨(some 73), (some (70, true)), .faddr 2 (.t 72)⟩,
     ⟨(some 74), (some (70, true)), .load false 1 (.t 73)⟩,
     ⟨(some 75), (some (70, true)), .un .not (.t 74)⟩,
     ⟨(some 76), none, .pick (.t 70) (.t 75) (.c (.g (.bool false)))⟩,
     ⟨(some 77), none, .mov (.t 76)⟩,
     ⟨(some 78), (some (77, true)), .mov (.t 8)⟩,
     ⟨(some 79), (some (77, true)), .bin .leq (.t 78) (.c (.g (.int .i64 30)))⟩,
     ⟨(some 80), none, .pick (.t 77) (.t 79) (.c (.g (.bool false)))⟩]) <|
  .cond [0, 2, 4, 5, 6, 8] (.t 80)
   (.skip)
   (.exit 2)) <|
 .seq (.block [0, 2, 4, 5, 6, 8] 3 <|
  .seq (.reg [0, 2, 4, 5, 6, 8, 9] [⟨(some 83), none, .mov (.t 4)⟩,
     ⟨(some 84), none, .call (.c (.g (.fn 44))) [(.t 83)]⟩,
     ⟨(some 85), none, .build [.g (.int .i64 0), .g (.bool false), .g (.str []), .g (.str []), .g (.int .i64 0), .g (.int .i64 0), .g (.int .i64 0), .g (.int .i64 0)] [(0, 1, (.t 84))]⟩,
     ⟨(some 9), none, .alloc [.z (.int .i64 0), .z (.bool false), .z (.str []), .z (.str []), .z (.int .i64 0), .z (.int .i64 0), .z (.int .i64 0), .z (.int .i64 0)]⟩,
     ⟨none, none, .store 8 (.t 9) (.t 85)⟩]) <|
  .seq (.reg [0, 2, 4, 5, 6, 8, 9] [⟨(some 86), none, .mov (.t 4)⟩,
     ⟨(some 87), none, .call (.c (.g (.fn 45))) [(.t 86)]⟩,
     ⟨(some 88), none, .faddr 1 (.t 9)⟩,
     ⟨none, none, .store 1 (.t 88) (.t 87)⟩]) <|
  .seq (.reg [0, 2, 4, 5, 6, 8, 9] [⟨(some 89), none, .mov (.t 4)⟩,
     ⟨(some 90), none, .call (.c (.g (.fn 64))) [(.t 89)]⟩,
     ⟨(some 91), none, .faddr 2 (.t 9)⟩,
     ⟨none, none, .store 6 (.t 91) (.t 90)⟩]) <|
  .reg [0, 2, 4, 5, 6, 8] [⟨(some 92), none, .faddr 8 (.t 5)⟩,
    ⟨(some 93), none, .load false 1 (.t 92)⟩,
    ⟨(some 94), none, .load true 8 (.t 9)⟩,
    ⟨(some 95), none, .bslice 8 1 [.int .i64 0, .bool false, .str [], .str [], .int .i64 0, .int .i64 0, .int .i64 0, .int .i64 0] [(0, 8, (.t 94))]⟩,
    ⟨(some 96), none, .app 8 80 (.t 93) (.t 95)⟩,
    ⟨(some 97), none, .faddr 8 (.t 5)⟩,
    ⟨none, none, .store 1 (.t 97) (.t 96)⟩]) <|
 .reg [0, 2, 4, 5, 6, 8] [⟨(some 81), none, .mov (.t 8)⟩,
   ⟨(some 82), none, .bin .add (.t 81) (.c (.g (.int .i64 1)))⟩,
   ⟨(some 8), none, .mov (.t 82)⟩]
def F22 : IFunc := ⟨1, 118, [.cell 2 true 9, .tmp 3], false,
 .seq (.reg [0, 2] [⟨(some 2), none, .alloc [.z (.int .i64 0), .z (.int .i64 0), .z (.int .i64 0), .z (.int .i64 0), .z (.int .i64 0), .z (.int .i64 0), .z (.bool false), .s 6, .s 8]⟩,
    ⟨(some 3), none, .mov (.c (.g (.bool false)))⟩]) <|
 .seq (.reg [0, 2, 4] [⟨(some 12), none, .mov (.t 0)⟩,
    ⟨(some 13), none, .build [.g (.str []), .g (.int .i64 0), .g (.bool false)] [(0, 1, (.t 12))]⟩,
    ⟨(some 14), none, .box (.t 13)⟩,
    ⟨(some 4), none, .mov (.t 14)⟩]) <|
 .seq (.seq (.reg [0, 2, 4, 17] [⟨(some 15), none, .mov (.t 4)⟩,
     ⟨(some 16), none, .call (.c (.g (.fn 44))) [(.t 15)]⟩,
     ⟨(some 17), none, .bin .neq (.t 16) (.c (.g (.int .i64 2)))⟩]) <|
  .cond [0, 2, 4] (.t 17)
   (.seq (.reg [2, 3] [⟨(some 18), none, .build [.g (.int .i64 0), .g (.int .i64 0), .g (.int .i64 0), .g (.int .i64 0), .g (.int .i64 0), .g (.int .i64 0), .g (.bool false), .g (.nsl), .g (.nsl)] []⟩,
       ⟨none, none, .store 9 (.t 2) (.t 18)⟩,
       ⟨(some 3), none, .mov (.c (.g (.bool false)))⟩]) <|
    .ret)
   (.skip)) <|
 .seq (.reg [0, 2, 4, 5] [⟨(some 19), none, .mov (.t 4)⟩,
    ⟨(some 20), none, .call (.c (.g (.fn 44))) [(.t 19)]⟩,
    ⟨(some 21), none, .build [.g (.int .i64 0), .g (.int .i64 0), .g (.int .i64 0), .g (.int .i64 0), .g (.int .i64 0), .g (.int .i64 0), .g (.bool false), .g (.nsl), .g (.nsl)] [(0, 1, (.t 20))]⟩,
    ⟨(some 5), none, .alloc [.z (.int .i64 0), .z (.int .i64 0), .z (.int .i64 0), .z (.int .i64 0), .z (.int .i64 0), .z (.int .i64 0), .z (.bool false), .s 6, .s 8]⟩,
    ⟨none, none, .store 9 (.t 5) (.t 21)⟩]) <|
 .seq (.reg [0, 2, 4, 5] [⟨(some 22), none, .mov (.t 4)⟩,
    ⟨(some 23), none, .call (.c (.g (.fn 44))) [(.t 22)]⟩,
    ⟨(some 24), none, .faddr 1 (.t 5)⟩,
    ⟨none, none, .store 1 (.t 24) (.t 23)⟩]) <|
 .seq (.reg [0, 2, 4, 5] [⟨(some 25), none, .mov (.t 4)⟩,
    ⟨(some 26), none, .call (.c (.g (.fn 44))) [(.t 25)]⟩,
    ⟨(some 27), none, .faddr 2 (.t 5)⟩,
    ⟨none, none, .store 1 (.t 27) (.t 26)⟩]) <|
 .seq (.reg [0, 2, 4, 5] [⟨(some 28), none, .mov (.t 4)⟩,
    ⟨(some 29), none, .call (.c (.g (.fn 44))) [(.t 28)]⟩,
    ⟨(some 30), none, .faddr 3 (.t 5)⟩,
    ⟨none, none, .store 1 (.t 30) (.t 29)⟩]) <|
 .seq (.reg [0, 2, 4, 5] [⟨(some 31), none, .mov (.t 4)⟩,
    ⟨(some 32), none, .call (.c (.g (.fn 44))) [(.t 31)]⟩,
    ⟨(some 33), none, .faddr 4 (.t 5)⟩,
    ⟨none, none, .store 1 (.t 33) (.t 32)⟩]) <|
 .seq (.reg [0, 2, 4, 5] [⟨(some 34), none, .mov (.t 4)⟩,
    ⟨(some 35), none, .call (.c (.g (.fn 44))) [(.t 34)]⟩,
    ⟨(some 36), none, .faddr 5 (.t 5)⟩,
    ⟨none, none, .store 1 (.t 36) (.t 35)⟩]) <|
 .seq (.reg [0, 2, 4, 5] [⟨(some 37), none, .mov (.t 4)⟩,
    ⟨(some 38), none, .call (.c (.g (.fn 45))) [(.t 37)]⟩,
    ⟨(some 39), none, .faddr 6 (.t 5)⟩,
    ⟨none, none, .store 1 (.t 39) (.t 38)⟩]) <|
 .seq (.reg [0, 2, 4, 5, 6] [⟨(some 40), none, .mov (.t 4)⟩,
    ⟨(some 41), none, .call (.c (.g (.fn 44))) [(.t 40)]⟩,
    ⟨(some 6), none, .mov (.t 41)⟩]) <|
 .seq (.seq (.reg [0, 2, 4, 5, 6, 7] [⟨(some 7), none, .mov (.c (.g (.int .i64 0)))⟩]) <|
  .block [0, 2, 4, 5] 0 <|
  .loop [0, 2, 4, 5, 6, 7] [] L22_0) <|
 .seq (.reg [0, 2, 4, 5, 6] [⟨(some 65), none, .mov (.t 4)⟩,
    ⟨(some 66), none, .call (.c (.g (.fn 44))) [(.t 65)]⟩,
    ⟨(some 6), none, .mov (.t 66)⟩]) <|
 .seq (.seq (.reg [0, 2, 4, 5, 6, 8] [⟨(some 8), none, .mov (.c (.g (.int .i64 0)))⟩]) <|
  .block [0, 2, 4, 5] 2 <|
  .loop [0, 2, 4, 5, 6, 8] [] L22_1) <|
 .seq (.reg [0, 2, 4, 5, 10, 11] [⟨(some 99), none, .load true 9 (.t 5)⟩,
    ⟨(some 100), none, .call (.c (.g (.fn 20))) [(.t 99)]⟩,
    ⟨(some 98), none, .mov (.t 100)⟩,
    ⟨(some 101), none, .ext 0 (.t 98)⟩,
    ⟨(some 102), none, .ext 1 (.t 98)⟩,
    ⟨(some 10), none, .mov (.t 101)⟩,
    ⟨(some 11), none, .mov (.t 102)⟩]) <|
 .seq (.seq (.reg [2, 5, 115] [⟨(some 103), none, .mov (.t 4)⟩,
     ⟨(some 104), none, .nilchk (.t 103)⟩,
     ⟨(some 105), none, .faddr 2 (.t 104)⟩,
     ⟨(some 106), none, .load false 1 (.t 105)⟩,
     ⟨(some 107), none, .mov (.t 106)⟩,
     ⟨(some 108), (some (107, false)), .mov (.t 11)⟩,
     ⟨(some 109), (some (107, false)), .un .not (.t 108)⟩,
     ⟨(some 110), none, .pick (.t 107) (.c (.g (.bool true))) (.t 109)⟩,
     ⟨(some 111), none, .mov (.t 110)⟩,
     ⟨(some 112), (some (111, false)), .mov (.t 10)⟩,
     ⟨(some 113), (some (111, false)), .mov (.t 0)⟩,
     ⟨(some 114), (some (111, false)), .bin .neq (.t 112) (.t 113)⟩,
     ⟨(some 115), none, .pick (.t 111) (.c (.g (.bool true))) (.t 114)⟩]) <|
  .cond [2, 5] (.t 115)
   (.seq (.reg [2, 3] [⟨(some 116), none, .build [.g (.int .i64 0), .g (.int .i64 0), .g (.int .i64 0), .g (.int .i64 0), .g (.int .i64 0), .g (.int .i64 0), .g (.bool false), .g (.nsl), .g (.nsl)] []⟩,
       ⟨none, none, .store 9 (.t 2) (.t 116)⟩,
       ⟨(some 3), none, .mov (.c (.g (.bool false)))⟩]) <|
    .ret)
   (.skip)) <|
 .seq (.reg [2, 3] [⟨(some 117), none, .load true 9 (.t 5)⟩,
    ⟨none, none, .store 9 (.t 2) (.t 117)⟩,
    ⟨(some 3), none, .mov (.c (.g (.bool true)))⟩]) <|
 .ret⟩
def h22 : List (List Nat) := [[0, 2], [0, 2, 4], [0, 2, 4, 17], [0, 2, 4], [2, 3], [0, 2, 4, 5], [0, 2, 4, 5], [0, 2, 4, 5], [0, 2, 4, 5], [0, 2, 4, 5], [0, 2, 4, 5], [0, 2, 4, 5], [0, 2, 4, 5, 6], [0, 2, 4, 5, 6, 7], [0, 2, 4, 5], [0, 2, 4, 5, 6, 7], [0, 2, 4, 5, 6, 7, 55], [0, 2, 4, 5, 6, 7], [0, 2, 4, 5, 6, 7], [0, 2, 4, 5, 6, 7], [], [0, 2, 4, 5, 6, 7], [0, 2, 4, 5, 6], [0, 2, 4, 5, 6, 8], [0, 2, 4, 5], [0, 2, 4, 5, 6, 8], [0, 2, 4, 5, 6, 8, 80], [0, 2, 4, 5, 6, 8], [0, 2, 4, 5, 6, 8], [0, 2, 4, 5, 6, 8, 9], [0, 2, 4, 5, 6, 8, 9], [0, 2, 4, 5, 6, 8, 9], [0, 2, 4, 5, 6, 8], [0, 2, 4, 5, 6, 8], [0, 2, 4, 5, 10, 11], [2, 5, 115], [2, 5], [2, 3], [2, 3]]
theorem c22 : cFunc Try.prog 22 false h22 = some F22 := by kernel_rfl

/-- baton/wire.MayTell -/
def F23 : IFunc := ⟨1, 34, [.tmp 2], false,
 .seq (.reg [1] [⟨(some 1), none, .box (.t 0)⟩,
    ⟨(some 2), none, .mov (.c (.g (.bool false)))⟩]) <|
 .seq (.seq (.reg [1, 25] [⟨(some 3), none, .faddr 0 (.t 1)⟩,
     ⟨(some 4), none, .load false 1 (.t 3)⟩,
     ⟨(some 5), none, .bin .lss (.t 4) (.c (.g (.int .i64 0)))⟩,
     ⟨(some 6), none, .mov (.t 5)⟩,
     ⟨(some 7), (some (6, false)), .faddr 0 (.t 1)⟩,
     ⟨(some 8), (some (6, false)), .load false 1 (.t 7)⟩,
     ⟨(some 9), (some (6, false)), .bin .gtr (.t 8) (.c (.g (.int .i64 14)))⟩,
     ⟨(some 10), none, .pick (.t 6) (.c (.g (.bool true))) (.t 9)⟩,
     ⟨(some 11), none, .mov (.t 10)⟩,
     ⟨(some 12), (some (11, false)), .faddr 1 (.t 1)⟩,
     ⟨(some 13), (some (11, false)), .load false 1 (.t 12)⟩,
     ⟨(some 14), (some (11, false)), .faddr 2 (.t 1)⟩,
     ⟨(some 15), (some (11, false)), .load false 1 (.t 14)⟩,
     ⟨(some 16), (some (11, false)), .faddr 3 (.t 1)⟩,
     ⟨(some 17), (some (11, false)), .load false 1 (.t 16)⟩,
     ⟨(some 18), (some (11, false)), .faddr 4 (.t 1)⟩,
     ⟨(some 19), (some (11, false)), .load false 1 (.t 18)⟩,
     ⟨(some 20), (some (11, false)), .faddr 5 (.t 1)⟩,
     ⟨(some 21), (some (11, false)), .load false 1 (.t 20)⟩,
     ⟨(some 22), (some (11, false)), .bslice 1 5 [.int .i64 0] [(0, 1, (.t 13)), (1, 1, (.t 15)), (2, 1, (.t 17)), (3, 1, (.t 19)), (4, 1, (.t 21))]⟩,
     ⟨(some 23), (some (11, false)), .call (.c (.g (.fn 49))) [(.t 22)]⟩,
     ⟨(some 24), (some (11, false)), .un .not (.t 23)⟩,
     ⟨(some 25), none, .pick (.t 11) (.c (.g (.bool true))) (.t 24)⟩]) <|
  .cond [1] (.t 25)
   (.seq (.reg [2] [⟨(some 2), none, .mov (.c (.g (.bool false)))⟩]) <|
    .ret)
   (.skip)) <|
 .seq (.reg [2] [⟨(some 26), none, .faddr 7 (.t 1)⟩,
    ⟨(some 27), none, .load false 1 (.t 26)⟩,
    ⟨(some 28), none, .call (.c (.g (.fn 65))) [(.t 27), (.c (.g (.int .i64 30))), (.c (.g (.fn 66)))]⟩,
    ⟨(some 29), none, .mov (.t 28)⟩,
    ⟨(some 30), (some (29, true)), .faddr 8 (.t 1)⟩,
    ⟨(some 31), (some (29, true)), .load false 1 (.t 30)⟩,
    ⟨(some 32), (some (29, true)), .call (.c (.g (.fn 67))) [(.t 31), (.c (.g (.int .i64 30))), (.c (.g (.fn 68)))]⟩,
    ⟨(some 33), none, .pick (.t 29) (.t 32) (.c (.g (.bool false)))⟩,
    ⟨(some 2), none, .mov (.t 33)⟩]) <|
 .ret⟩
def h23 : List (List Nat) := [[1], [1, 25], [1], [2], [2]]
theorem c23 : cFunc Try.prog 23 false h23 = some F23 := by kernel_rfl

/-- baton/batonref03.MayTell -/
def L24_0 : IC :=
 .seq (.seq (.reg [1, 3, 59] [⟨(some 55), none, .mov (.t 3)⟩,
     ⟨(some 56), none, .faddr 7 (.t 1)⟩,
     ⟨(some 57), none, .load false 1 (.t 56)⟩,
     ⟨(some 58), none, .len (.t 57)⟩,
     ⟨(some 59), none, .bin .lss (.t 55) (.t 58)⟩]) <|
  .cond [1, 3] (.t 59)
   (.skip)
   (.exit 0)) <|
 .seq (.block [1, 3] 1 <|
  .seq (.reg [1, 3, 68] [⟨(some 62), none, .faddr 7 (.t 1)⟩,
     ⟨(some 63), none, .load false 1 (.t 62)⟩,
     ⟨(some 64), none, .mov (.t 3)⟩,
     ⟨(some 65), none, .iaddr 6 (.t 63) (.t 64)⟩,
     ⟨(some 66), none, .load true 6 (.t 65)⟩,
     ⟨(some 67), none, .call (.c (.g (.fn 69))) [(.t 66)]⟩,
     ⟨(some 68), none, .un .not (.t 67)⟩]) <|
  .cond [1, 3] (.t 68)
   (.seq (.reg [2] [⟨(some 2), none, .mov (.c (.g (.bool false)))⟩]) <|
    .ret)
   (.skip)) <|
 .reg [1, 3] [⟨(some 60), none, .mov (.t 3)⟩,
   ⟨(some 61), none, .bin .add (.t 60) (.c (.g (.int .i64 1)))⟩,
   ⟨(some 3), none, .mov (.t 61)⟩]
def L24_1 : IC :=
 .seq (.seq (.reg [1, 4, 73] [⟨(some 69), none, .mov (.t 4)⟩,
     ⟨(some 70), none, .faddr 8 (.t 1)⟩,
     ⟨(some 71), none, .load false 1 (.t 70)⟩,
     ⟨(some 72), none, .len (.t 71)⟩,
     ⟨(some 73), none, .bin .lss (.t 69) (.t 72)⟩]) <|
  .cond [1, 4] (.t 73)
   (.skip)
   (.exit 2)) <|
 .seq (.block [1, 4] 3 <|
  .seq (.reg [1, 4, 93] [⟨(some 76), none, .faddr 8 (.t 1)⟩,
     ⟨(some 77), none, .load false 1 (.t 76)⟩,
     ⟨(some 78), none, .mov (.t 4)⟩,
     ⟨(some 79), none, .iaddr 8 (.t 77) (.t 78)⟩,
     ⟨(some 80), none, .faddr 2 (.t 79)⟩,
     ⟨(some 81), none, .load true 6 (.t 80)⟩,
     ⟨(some 82), none, .call (.c (.g (.fn 69))) [(.t 81)]⟩,
     ⟨(some 83), none, .un .not (.t 82)⟩,
     ⟨(some 84), none, .mov (.t 83)⟩,
     ⟨(some 85), (some (84, false)), .faddr 8 (.t 1)⟩,
     ⟨(some 86), (some (84, false)), .load false 1 (.t 85)⟩,
     ⟨(some 87), (some (84, false)), .mov (.t 4)⟩,
     ⟨(some 88), (some (84, false)), .iaddr 8 (.t 86) (.t 87)⟩,
     ⟨(some 89), (some (84, false)), .faddr 0 (.t 88)⟩,
     ⟨(some 90), (some (84, false)), .load false 1 (.t 89)⟩,
     ⟨(some 91), (some (84, false)), .call (.c (.g (.fn 54))) [(.t 90)]⟩,
     ⟨(some 92), (some (84, false)), .un .not (.t 91)⟩,
     ⟨(some 93), none, .pick (.t 84) (.c (.g (.bool true))) (.t 92)⟩]) <|
  .cond [1, 4] (.t 93)
   (.seq (.reg [2] [⟨(some 2), none, .mov (.c (.g (.bool false)))⟩]) <|
    .ret)
   (.skip)) <|
 .reg [1, 4] [⟨(some 74), none, .mov (.t 4)⟩,
   ⟨(some 75), none, .bin .add (.t 74) (.c (.g (.int .i64 1)))⟩,
   ⟨(some 4), none, .mov (.t 75)⟩]
def F24 : IFunc := ⟨1, 94, [.tmp 2], false,
 .seq (.reg [1] [⟨(some 1), none, .box (.t 0)⟩,
    ⟨(some 2), none, .mov (.c (.g (.bool false)))⟩]) <|
 .seq (.seq (.reg [1, 54] [⟨(some 5), none, .faddr 0 (.t 1)⟩,
     ⟨(some 6), none, .load false 1 (.t 5)⟩,
     ⟨(some 7), none, .bin .lss (.t 6) (.c (.g (.int .i64 0)))⟩,
     ⟨(some 8), none, .mov (.t 7)⟩,
     ⟨(some 9), (some (8, false)), .faddr 0 (.t 1)⟩,
     ⟨(some 10), (some (8, false)), .load false 1 (.t 9)⟩,
     ⟨(some 11), (some (8, false)), .bin .gtr (.t 10) (.c (.g (.int .i64 14)))⟩,
     ⟨(some 12), none, .pick (.t 8) (.c (.g (.bool true))) (.t 11)⟩,
     ⟨(some 13), none, .mov (.t 12)⟩,
     ⟨(some 14), (some (13, false)), .faddr 1 (.t 1)⟩,
     ⟨(some 15), (some (13, false)), .load false 1 (.t 14)⟩,
     ⟨(some 16), (some (13, false)), .call (.c (.g (.fn 54))) [(.t 15)]⟩,
     ⟨(some 17), (some (13, false)), .un .not (.t 16)⟩,
     ⟨(some 18), none, .pick (.t 13) (.c (.g (.bool true))) (.t 17)⟩,
     ⟨(some 19), none, .mov (.t 18)⟩,
     ⟨(some 20), (some (19, false)), .faddr 2 (.t 1)⟩,
     ⟨(some 21), (some (19, false)), .load false 1 (.t 20)⟩,
     ⟨(some 22), (some (19, false)), .call (.c (.g (.fn 54))) [(.t 21)]⟩,
     ⟨(some 23), (some (19, false)), .un .not (.t 22)⟩,
     ⟨(some 24), none, .pick (.t 19) (.c (.g (.bool true))) (.t 23)⟩,
     ⟨(some 25), none, .mov (.t 24)⟩,
     ⟨(some 26), (some (25, false)), .faddr 3 (.t 1)⟩,
     ⟨(some 27), (some (25, false)), .load false 1 (.t 26)⟩,
     ⟨(some 28), (some (25, false)), .call (.c (.g (.fn 54))) [(.t 27)]⟩,
     ⟨(some 29), (some (25, false)), .un .not (.t 28)⟩,
     ⟨(some 30), none, .pick (.t 25) (.c (.g (.bool true))) (.t 29)⟩,
     ⟨(some 31), none, .mov (.t 30)⟩,
     ⟨(some 32), (some (31, false)), .faddr 4 (.t 1)⟩,
     ⟨(some 33), (some (31, false)), .load false 1 (.t 32)⟩,
     ⟨(some 34), (some (31, false)), .call (.c (.g (.fn 54))) [(.t 33)]⟩,
     ⟨(some 35), (some (31, false)), .un .not (.t 34)⟩,
     ⟨(some 36), none, .pick (.t 31) (.c (.g (.bool true))) (.t 35)⟩,
     ⟨(some 37), none, .mov (.t 36)⟩,
     ⟨(some 38), (some (37, false)), .faddr 5 (.t 1)⟩,
     ⟨(some 39), (some (37, false)), .load false 1 (.t 38)⟩,
     ⟨(some 40), (some (37, false)), .call (.c (.g (.fn 54))) [(.t 39)]⟩,
     ⟨(some 41), (some (37, false)), .un .not (.t 40)⟩,
     ⟨(some 42), none, .pick (.t 37) (.c (.g (.bool true))) (.t 41)⟩,
     ⟨(some 43), none, .mov (.t 42)⟩,
     ⟨(some 44), (some (43, false)), .faddr 7 (.t 1)⟩,
     ⟨(some 45), (some (43, false)), .load false 1 (.t 44)⟩,
     ⟨(some 46), (some (43, false)), .len (.t 45)⟩,
     ⟨(some 47), (some (43, false)), .bin .gtr (.t 46) (.c (.g (.int .i64 30)))⟩,
     ⟨(some 48), none, .pick (.t 43) (.c (.g (.bool true))) (.t 47)⟩,
     ⟨(some 49), none, .mov (.t 48)⟩,
     ⟨(some 50), (some (49, false)), .faddr 8 (.t 1)⟩,
     ⟨(some 51), (some (49, false)), .load false 1 (.t 50)⟩,
     ⟨(some 52), (some (49, false)), .len (.t 51)⟩,
     ⟨(some 53), (some (49, false)), .bin .gtr (.t 52) (.c (.g (.int .i64 30)))⟩,
     ⟨(some 54), none, .pick (.t 49) (.c (.g (.bool true))) (.t 53)⟩]) <|
  .cond [1] (.t 54)
   (.seq (.reg [2] [⟨(some 2), none, .mov (.c (.g (.bool false)))⟩]) <|
    .ret)
   (.skip)) <|
 .seq (.seq (.reg [1, 3] [⟨(some 3), none, .mov (.c (.g (.int .i64 0)))⟩]) <|
  .block [1] 0 <|
  .loop [1, 3] [] L24_0) <|
 .seq (.seq (.reg [1, 4] [⟨(some 4), none, .mov (.c (.g (.int .i64 0)))⟩]) <|
  .block [] 2 <|
  .loop [1, 4] [] L24_1) <|
 .seq (.reg [2] [⟨(some 2), none, .mov (.c (.g (.bool true)))⟩]) <|
 .ret⟩
def h24 : List (List Nat) := [[1], [1, 54], [1], [2], [1, 3], [1], [1, 3], [1, 3, 59], [1, 3], [1, 3], [1, 3, 68], [1, 3], [2], [1, 3], [1, 4], [], [1, 4], [1, 4, 73], [1, 4], [1, 4], [1, 4, 93], [1, 4], [2], [1, 4], [2]]
theorem c24 : cFunc Try.prog 24 false h24 = some F24 := by kernel_rfl

/-- baton/batonref03.Alike -/
def F25 : IFunc := ⟨2, 66, [.tmp 4], false,
 .seq (.reg [2, 3] [⟨(some 2), none, .box (.t 0)⟩,
    ⟨(some 3), none, .box (.t 1)⟩,
    ⟨(some 4), none, .mov (.c (.g (.bool false)))⟩]) <|
 .seq (.reg [4] [⟨(some 5), none, .faddr 0 (.t 2)⟩,
    ⟨(some 6), none, .load false 1 (.t 5)⟩,
    ⟨(some 7), none, .faddr 0 (.t 3)⟩,
    ⟨(some 8), none, .load false 1 (.t 7)⟩,
    ⟨(some 9), none, .bin .eql (.t 6) (.t 8)⟩,
    ⟨(some 10), none, .mov (.t 9)⟩,
    ⟨(some 11), (some (10, true)), .faddr 1 (.t 2)⟩,
    ⟨(some 12), (some (10, true)), .load false 1 (.t 11)⟩,
    ⟨(some 13), (some (10, true)), .faddr 1 (.t 3)⟩,
    ⟨(some 14), (some (10, true)), .load false 1 (.t 13)⟩,
    ⟨(some 15), (some (10, true)), .bin .eql (.t 12) (.t 14)⟩,
    ⟨(some 16), none, .pick (.t 10) (.t 15) (.c (.g (.bool false)))⟩,
    ⟨(some 17), none, .mov (.t 16)⟩,
    ⟨(some 18), (some (17, true)), .faddr 2 (.t 2)⟩,
    ⟨(some 19), (some (17, true)), .load false 1 (.t 18)⟩,
    ⟨(some 20), (some (17, true)), .faddr 2 (.t 3)⟩,
    ⟨(some 21), (some (17, true)), .load false 1 (.t 20)⟩,
    ⟨(some 22), (some (17, true)), .bin .eql (.t 19) (.t 21)⟩,
    ⟨(some 23), none, .pick (.t 17) (.t 22) (.c (.g (.bool false)))⟩,
    ⟨(some 24), none, .mov (.t 23)⟩,
    ⟨(some 25), (some (24, true)), .faddr 3 (.t 2)⟩,
    ⟨(some 26), (some (24, true)), .load false 1 (.t 25)⟩,
    ⟨(some 27), (some (24, true)), .faddr 3 (.t 3)⟩,
    ⟨(some 28), (some (24, true)), .load false 1 (.t 27)⟩,
    ⟨(some 29), (some (24, true)), .bin .eql (.t 26) (.t 28)⟩,
    ⟨(some 30), none, .pick (.t 24) (.t 29) (.c (.g (.bool false)))⟩,
    ⟨(some 31), none, .mov (.t 30)⟩,
    ⟨(some 32), (some (31, true)), .faddr 4 (.t 2)⟩,
    ⟨(some 33), (some (31, true)), .load false 1 (.t 32)⟩,
    ⟨(some 34), (some (31, true)), .faddr 4 (.t 3)⟩,
    ⟨(some 35), (some (31, true)), .load false 1 (.t 34)⟩,
    ⟨(some 36), (some (31, true)), .bin .eql (.t 33) (.t 35)⟩,
    ⟨(some 37), none, .pick (.t 31) (.t 36) (.c (.g (.bool false)))⟩,
    ⟨(some 38), none, .mov (.t 37)⟩,
    ⟨(some 39), (some (38, true)), .faddr 5 (.t 2)⟩,
    ⟨(some 40), (some (38, true)), .load false 1 (.t 39)⟩,
    ⟨(some 41), (some (38, true)), .faddr 5 (.t 3)⟩,
    ⟨(some 42), (some (38, true)), .load false 1 (.t 41)⟩,
    ⟨(some 43), (some (38, true)), .bin .eql (.t 40) (.t 42)⟩,
    ⟨(some 44), none, .pick (.t 38) (.t 43) (.c (.g (.bool false)))⟩,
    ⟨(some 45), none, .mov (.t 44)⟩,
    ⟨(some 46), (some (45, true)), .faddr 6 (.t 2)⟩,
    ⟨(some 47), (some (45, true)), .load false 1 (.t 46)⟩,
    ⟨(some 48), (some (45, true)), .faddr 6 (.t 3)⟩,
    ⟨(some 49), (some (45, true)), .load false 1 (.t 48)⟩,
    ⟨(some 50), (some (45, true)), .eqs false false [.b] (.t 47) (.t 49)⟩,
    ⟨(some 51), none, .pick (.t 45) (.t 50) (.c (.g (.bool false)))⟩,
    ⟨(some 52), none, .mov (.t 51)⟩,
    ⟨(some 53), (some (52, true)), .faddr 7 (.t 2)⟩,
    ⟨(some 54), (some (52, true)), .load false 1 (.t 53)⟩,
    ⟨(some 55), (some (52, true)), .faddr 7 (.t 3)⟩,
    ⟨(some 56), (some (52, true)), .load false 1 (.t 55)⟩,
    ⟨(some 57), (some (52, true)), .call (.c (.g (.fn 70))) [(.t 54), (.t 56)]⟩,
    ⟨(some 58), none, .pick (.t 52) (.t 57) (.c (.g (.bool false)))⟩,
    ⟨(some 59), none, .mov (.t 58)⟩,
    ⟨(some 60), (some (59, true)), .faddr 8 (.t 2)⟩,
    ⟨(some 61), (some (59, true)), .load false 1 (.t 60)⟩,
    ⟨(some 62), (some (59, true)), .faddr 8 (.t 3)⟩,
    ⟨(some 63), (some (59, true)), .load false 1 (.t 62)⟩,
    ⟨(some 64), (some (59, true)), .call (.c (.g (.fn 71))) [(.t 61), (.t 63)]⟩,
    ⟨(some 65), none, .pick (.t 59) (.t 64) (.c (.g (.bool false)))⟩,
    ⟨(some 4), none, .mov (.t 65)⟩]) <|
 .ret⟩
def h25 : List (List Nat) := [[2, 3], [4]]
theorem c25 : cFunc Try.prog 25 false h25 = some F25 := by kernel_rfl

/-- baton/batonref03.ShortMuts -/
def L26_0 : IC :=
 .seq (.seq (.reg [0, 3, 10] [⟨(some 7), none, .mov (.t 3)⟩,
     ⟨(some 8), none, .mov (.t 0)⟩,
     ⟨(some 9), none, .len (.t 8)⟩,
     ⟨(some 10), none, .bin .lss (.t 7) (.t 9)⟩]) <|
  .cond [0, 3] (.t 10)
   (.skip)
   (.exit 0)) <|
 .seq (.block [0, 3] 1 <|
  .seq (.reg [0, 3, 28] [⟨(some 13), none, .mov (.t 0)⟩,
     ⟨(some 14), none, .mov (.t 3)⟩,
     ⟨(some 15), none, .iaddr 4 (.t 13) (.t 14)⟩,
     ⟨(some 16), none, .faddr 1 (.t 15)⟩,
     ⟨(some 17), none, .load false 1 (.t 16)⟩,
     ⟨(some 18), none, .lenS (.t 17)⟩,
     ⟨(some 19), none, .bin .gtr (.t 18) (.c (.g (.int .i64 60)))⟩,
     ⟨(some 20), none, .mov (.t 19)⟩,
     ⟨(some 21), (some (20, false)), .mov (.t 0)⟩,
     ⟨(some 22), (some (20, false)), .mov (.t 3)⟩,
     ⟨(some 23), (some (20, false)), .iaddr 4 (.t 21) (.t 22)⟩,
     ⟨(some 24), (some (20, false)), .faddr 2 (.t 23)⟩,
     ⟨(some 25), (some (20, false)), .load false 1 (.t 24)⟩,
     ⟨(some 26), (some (20, false)), .lenS (.t 25)⟩,
     ⟨(some 27), (some (20, false)), .bin .gtr (.t 26) (.c (.g (.int .i64 60)))⟩,
     ⟨(some 28), none, .pick (.t 20) (.c (.g (.bool true))) (.t 27)⟩]) <|
  .cond [0, 3] (.t 28)
   (.seq (.reg [2] [⟨(some 2), none, .mov (.c (.g (.bool false)))⟩]) <|
    .ret)
   (.skip)) <|
 .reg [0, 3] [⟨(some 11), none, .mov (.t 3)⟩,
   ⟨(some 12), none, .bin .add (.t 11) (.c (.g (.int .i64 1)))⟩,
   ⟨(some 3), none, .mov (.t 12)⟩]
def F26 : IFunc := ⟨1, 29, [.tmp 2], false,
 .seq (.reg [0] [⟨(some 2), none, .mov (.c (.g (.bool false)))⟩]) <|
 .seq (.seq (.reg [0, 6] [⟨(some 4), none, .mov (.t 0)⟩,
     ⟨(some 5), none, .len (.t 4)⟩,
     ⟨(some 6), none, .bin .gtr (.t 5) (.c (.g (.int .i64 8)))⟩]) <|
  .cond [0] (.t 6)
   (.seq (.reg [2] [⟨(some 2), none, .mov (.c (.g (.bool false)))⟩]) <|
    .ret)
   (.skip)) <|
 .seq (.seq (.reg [0, 3] [⟨(some 3), none, .mov (.c (.g (.int .i64 0)))⟩]) <|
  .block [] 0 <|
  .loop [0, 3] [] L26_0) <|
 .seq (.reg [2] [⟨(some 2), none, .mov (.c (.g (.bool true)))⟩]) <|
 .ret⟩
def h26 : List (List Nat) := [[0], [0, 6], [0], [2], [0, 3], [], [0, 3], [0, 3, 10], [0, 3], [0, 3], [0, 3, 28], [0, 3], [2], [0, 3], [2]]
theorem c26 : cFunc Try.prog 26 false h26 = some F26 := by kernel_rfl

/-- (*baton/wire.writer).n -/
def L27_0 : IC :=
 .seq (.reg [0, 6, 7, 8, 9] [⟨(some 9), none, .bin .lss (.t 8) (.t 7)⟩]) <|
 .seq (.cond [0, 6, 7, 8] (.t 9)
   (.skip)
   (.exit 0)) <|
 .seq (.block [0, 6, 7, 8] 1 <|
  .seq (.reg [0, 5, 6, 7, 8] [⟨(some 10), none, .iaddr 1 (.t 6) (.t 8)⟩,
     ⟨(some 11), none, .load false 1 (.t 10)⟩,
     ⟨(some 5), none, .mov (.t 11)⟩]) <|
  .drw [0, 6, 7, 8] 0 <|
  .free <|
  .take ⟨(some 12), none, .mov (.t 0)⟩ <|
  .take ⟨(some 13), none, .nilchk (.t 12)⟩ <|
  .take ⟨(some 14), none, .faddr 0 (.t 13)⟩ <|
  .take ⟨(some 15), none, .mov (.t 5)⟩ <|
  .take ⟨(some 16), none, .conv .u64 (.t 15)⟩ <|
  .one ⟨(some 17), none, .call (.c (.g (.fn 73))) [(.t 16)]⟩ <|
  .one ⟨(some 18), none, .call (.c (.g (.fn 72))) [(.t 14), (.t 17)]⟩ <|
  .leaf) <|
 .reg [0, 6, 7, 8] [⟨(some 19), none, .bin .add (.t 8) (.c (.g (.int .i64 1)))⟩,
   ⟨(some 8), none, .mov (.t 19)⟩]
def F27 : IFunc := ⟨2, 20, [], false,
 .seq (.reg [0, 6, 7, 8] [⟨(some 6), none, .mov (.t 1)⟩,
    ⟨(some 7), none, .len (.t 6)⟩,
    ⟨(some 8), none, .mov (.c (.g (.int .i64 0)))⟩]) <|
 .block [] 0 <|
 .loop [0, 6, 7, 8] [] L27_0⟩
def h27 : List (List Nat) := [[0, 6, 7, 8], [], [0, 6, 7, 8], [0, 6, 7, 8, 9], [0, 6, 7, 8], [0, 6, 7, 8], [0, 5, 6, 7, 8], [0, 6, 7, 8], [], [0, 6, 7, 8]]
theorem c27 : cFunc Try.prog 27 false h27 = some F27 := by kernel_rfl

/-- (*baton/wire.writer).b -/
def F28 : IFunc := ⟨2, 11, [], false,
 .seq (.reg [0, 4] [⟨(some 4), none, .mov (.t 1)⟩]) <|
 .cond [] (.t 4)
  (.reg [] [⟨(some 5), none, .mov (.t 0)⟩,
     ⟨(some 6), none, .bslice 1 1 [.int .i64 0] [(0, 1, (.c (.g (.int .i64 1))))]⟩,
     ⟨(some 7), none, .call (.c (.g (.fn 27))) [(.t 5), (.t 6)]⟩])
  (.reg [] [⟨(some 8), none, .mov (.t 0)⟩,
     ⟨(some 9), none, .bslice 1 1 [.int .i64 0] [(0, 1, (.c (.g (.int .i64 0))))]⟩,
     ⟨(some 10), none, .call (.c (.g (.fn 27))) [(.t 8), (.t 9)]⟩])⟩
def h28 : List (List Nat) := [[0, 4], [], [], []]
theorem c28 : cFunc Try.prog 28 false h28 = some F28 := by kernel_rfl

/-- (*baton/wire.writer).t -/
def L29_0 : IC :=
 .seq (.reg [0, 6, 7, 8, 9] [⟨(some 9), none, .bin .lss (.t 8) (.t 7)⟩]) <|
 .seq (.cond [0, 6, 7, 8] (.t 9)
   (.skip)
   (.exit 0)) <|
 .seq (.block [0, 6, 7, 8] 1 <|
  .seq (.reg [0, 5, 6, 7, 8] [⟨(some 10), none, .iaddr 1 (.t 6) (.t 8)⟩,
     ⟨(some 11), none, .load false 1 (.t 10)⟩,
     ⟨(some 5), none, .mov (.t 11)⟩]) <|
  .seq (.reg [0, 5, 6, 7, 8] [⟨(some 12), none, .mov (.t 0)⟩,
     ⟨(some 13), none, .mov (.t 5)⟩,
     ⟨(some 14), none, .lenS (.t 13)⟩,
     ⟨(some 15), none, .bslice 1 1 [.int .i64 0] [(0, 1, (.t 14))]⟩,
     ⟨(some 16), none, .call (.c (.g (.fn 27))) [(.t 12), (.t 15)]⟩]) <|
  .reg [0, 6, 7, 8] [⟨(some 17), none, .mov (.t 0)⟩,
    ⟨(some 18), none, .nilchk (.t 17)⟩,
    ⟨(some 19), none, .faddr 0 (.t 18)⟩,
    ⟨(some 20), none, .mov (.t 5)⟩,
    ⟨(some 21), none, .call (.c (.g (.fn 72))) [(.t 19), (.t 20)]⟩]) <|
 .reg [0, 6, 7, 8] [⟨(some 22), none, .bin .add (.t 8) (.c (.g (.int .i64 1)))⟩,
   ⟨(some 8), none, .mov (.t 22)⟩]
def F29 : IFunc := ⟨2, 23, [], false,
 .seq (.reg [0, 6, 7, 8] [⟨(some 6), none, .mov (.t 1)⟩,
    ⟨(some 7), none, .len (.t 6)⟩,
    ⟨(some 8), none, .mov (.c (.g (.int .i64 0)))⟩]) <|
 .block [] 0 <|
 .loop [0, 6, 7, 8] [] L29_0⟩
def h29 : List (List Nat) := [[0, 6, 7, 8], [], [0, 6, 7, 8], [0, 6, 7, 8, 9], [0, 6, 7, 8], [0, 6, 7, 8], [0, 5, 6, 7, 8], [0, 5, 6, 7, 8], [0, 6, 7, 8], [0, 6, 7, 8]]
theorem c29 : cFunc Try.prog 29 false h29 = some F29 := by kernel_rfl

/-- (*baton/wire.writer).muts -/
def L30_0 : IC :=
 .seq (.reg [0, 11, 12, 13, 14] [⟨(some 14), none, .bin .lss (.t 13) (.t 12)⟩]) <|
 .seq (.cond [0, 11, 12, 13] (.t 14)
   (.skip)
   (.exit 0)) <|
 .seq (.block [0, 11, 12, 13] 1 <|
  .seq (.reg [0, 5, 11, 12, 13] [⟨(some 15), none, .iaddr 4 (.t 11) (.t 13)⟩,
     ⟨(some 16), none, .load true 4 (.t 15)⟩,
     ⟨(some 5), none, .alloc [.z (.bool false), .z (.str []), .z (.str []), .z (.int .i64 0)]⟩,
     ⟨none, none, .store 4 (.t 5) (.t 16)⟩]) <|
  .seq (.reg [0, 5, 11, 12, 13] [⟨(some 17), none, .mov (.t 0)⟩,
     ⟨(some 18), none, .faddr 0 (.t 5)⟩,
     ⟨(some 19), none, .load false 1 (.t 18)⟩,
     ⟨(some 20), none, .call (.c (.g (.fn 28))) [(.t 17), (.t 19)]⟩]) <|
  .seq (.reg [0, 5, 11, 12, 13] [⟨(some 21), none, .mov (.t 0)⟩,
     ⟨(some 22), none, .faddr 1 (.t 5)⟩,
     ⟨(some 23), none, .load false 1 (.t 22)⟩,
     ⟨(some 24), none, .faddr 2 (.t 5)⟩,
     ⟨(some 25), none, .load false 1 (.t 24)⟩,
     ⟨(some 26), none, .bslice 1 2 [.str []] [(0, 1, (.t 23)), (1, 1, (.t 25))]⟩,
     ⟨(some 27), none, .call (.c (.g (.fn 29))) [(.t 21), (.t 26)]⟩]) <|
  .reg [0, 11, 12, 13] [⟨(some 28), none, .mov (.t 0)⟩,
    ⟨(some 29), none, .faddr 3 (.t 5)⟩,
    ⟨(some 30), none, .load false 1 (.t 29)⟩,
    ⟨(some 31), none, .bslice 1 1 [.int .i64 0] [(0, 1, (.t 30))]⟩,
    ⟨(some 32), none, .call (.c (.g (.fn 27))) [(.t 28), (.t 31)]⟩]) <|
 .reg [0, 11, 12, 13] [⟨(some 33), none, .bin .add (.t 13) (.c (.g (.int .i64 1)))⟩,
   ⟨(some 13), none, .mov (.t 33)⟩]
def F30 : IFunc := ⟨2, 34, [], false,
 .seq (.reg [0, 1] [⟨(some 6), none, .mov (.t 0)⟩,
    ⟨(some 7), none, .mov (.t 1)⟩,
    ⟨(some 8), none, .len (.t 7)⟩,
    ⟨(some 9), none, .bslice 1 1 [.int .i64 0] [(0, 1, (.t 8))]⟩,
    ⟨(some 10), none, .call (.c (.g (.fn 27))) [(.t 6), (.t 9)]⟩]) <|
 .seq (.reg [0, 11, 12, 13] [⟨(some 11), none, .mov (.t 1)⟩,
    ⟨(some 12), none, .len (.t 11)⟩,
    ⟨(some 13), none, .mov (.c (.g (.int .i64 0)))⟩]) <|
 .block [] 0 <|
 .loop [0, 11, 12, 13] [] L30_0⟩
def h30 : List (List Nat) := [[0, 1], [0, 11, 12, 13], [], [0, 11, 12, 13], [0, 11, 12, 13, 14], [0, 11, 12, 13], [0, 11, 12, 13], [0, 5, 11, 12, 13], [0, 5, 11, 12, 13], [0, 5, 11, 12, 13], [0, 11, 12, 13], [0, 11, 12, 13]]
theorem c30 : cFunc Try.prog 30 false h30 = some F30 := by kernel_rfl

/-- (*strings.Builder).String -/
def F31 : IFunc := ⟨1, 14, [.tmp 2], false,
 .seq (.reg [0] [⟨(some 2), none, .mov (.c (.g (.str [])))⟩]) <|
 .seq (.drw [2] 0 <|
  .take ⟨(some 3), none, .mov (.t 0)⟩ <|
  .take ⟨(some 4), none, .nilchk (.t 3)⟩ <|
  .take ⟨(some 5), none, .faddr 1 (.t 4)⟩ <|
  .take ⟨(some 6), none, .load false 1 (.t 5)⟩ <|
  .take ⟨(some 8), none, .mov (.t 0)⟩ <|
  .take ⟨(some 9), none, .nilchk (.t 8)⟩ <|
  .take ⟨(some 10), none, .faddr 1 (.t 9)⟩ <|
  .take ⟨(some 11), none, .load false 1 (.t 10)⟩ <|
  .take ⟨(some 12), none, .len (.t 11)⟩ <|
  .one ⟨(some 7), none, .sdata (.t 6)⟩ <|
  .one ⟨(some 13), none, .ustr 5 (.t 7) (.t 12)⟩ <|
  .free <|
  .take ⟨(some 2), none, .mov (.t 13)⟩ <|
  .leaf) <|
 .ret⟩
def h31 : List (List Nat) := [[0], [2], []]
theorem c31 : cFunc Try.prog 31 false h31 = some F31 := by kernel_rfl

/-- baton/batonref03.putN -/
def F32 : IFunc := ⟨1, 6, [.tmp 2], false,
 .seq (.reg [0] [⟨(some 2), none, .mov (.c (.g (.str [])))⟩]) <|
 .seq (.reg [2] [⟨(some 3), none, .mov (.t 0)⟩,
    ⟨(some 4), none, .conv .u64 (.t 3)⟩,
    ⟨(some 5), none, .call (.c (.g (.fn 74))) [(.t 4)]⟩,
    ⟨(some 2), none, .mov (.t 5)⟩]) <|
 .ret⟩
def h32 : List (List Nat) := [[0], [2]]
theorem c32 : cFunc Try.prog 32 false h32 = some F32 := by kernel_rfl

/-- baton/batonref03.putB -/
def F33 : IFunc := ⟨1, 4, [.tmp 2], false,
 .seq (.reg [0] [⟨(some 2), none, .mov (.c (.g (.str [])))⟩]) <|
 .seq (.seq (.reg [3] [⟨(some 3), none, .mov (.t 0)⟩]) <|
  .cond [] (.t 3)
   (.seq (.reg [2] [⟨(some 2), none, .mov (.c (.g (.str [1])))⟩]) <|
    .ret)
   (.skip)) <|
 .seq (.reg [2] [⟨(some 2), none, .mov (.c (.g (.str [0])))⟩]) <|
 .ret⟩
def h33 : List (List Nat) := [[0], [3], [], [2], [2]]
theorem c33 : cFunc Try.prog 33 false h33 = some F33 := by kernel_rfl

/-- baton/batonref03.putS -/
def F34 : IFunc := ⟨1, 8, [.tmp 2], false,
 .seq (.reg [0] [⟨(some 2), none, .mov (.c (.g (.str [])))⟩]) <|
 .seq (.reg [2] [⟨(some 3), none, .mov (.t 0)⟩,
    ⟨(some 4), none, .lenS (.t 3)⟩,
    ⟨(some 5), none, .call (.c (.g (.fn 32))) [(.t 4)]⟩,
    ⟨(some 6), none, .mov (.t 0)⟩,
    ⟨(some 7), none, .bin .add (.t 5) (.t 6)⟩,
    ⟨(some 2), none, .mov (.t 7)⟩]) <|
 .ret⟩
def h34 : List (List Nat) := [[0], [2]]
theorem c34 : cFunc Try.prog 34 false h34 = some F34 := by kernel_rfl

/-- baton/batonref03.putMuts -/
def L35_0 : IC :=
 .seq (.seq (.reg [0, 3, 4, 11] [⟨(some 8), none, .mov (.t 4)⟩,
     ⟨(some 9), none, .mov (.t 0)⟩,
     ⟨(some 10), none, .len (.t 9)⟩,
     ⟨(some 11), none, .bin .lss (.t 8) (.t 10)⟩]) <|
  .cond [0, 3, 4] (.t 11)
   (.skip)
   (.exit 0)) <|
 .seq (.block [0, 3, 4] 1 <|
  .drw [0, 3, 4] 0 <|
  .take ⟨(some 14), none, .mov (.t 3)⟩ <|
  .take ⟨(some 15), none, .mov (.t 0)⟩ <|
  .take ⟨(some 16), none, .mov (.t 4)⟩ <|
  .take ⟨(some 17), none, .iaddr 4 (.t 15) (.t 16)⟩ <|
  .take ⟨(some 18), none, .faddr 0 (.t 17)⟩ <|
  .take ⟨(some 19), none, .load false 1 (.t 18)⟩ <|
  .take ⟨(some 22), none, .mov (.t 0)⟩ <|
  .take ⟨(some 23), none, .mov (.t 4)⟩ <|
  .take ⟨(some 24), none, .iaddr 4 (.t 22) (.t 23)⟩ <|
  .take ⟨(some 25), none, .faddr 1 (.t 24)⟩ <|
  .take ⟨(some 26), none, .load false 1 (.t 25)⟩ <|
  .take ⟨(some 29), none, .mov (.t 0)⟩ <|
  .take ⟨(some 30), none, .mov (.t 4)⟩ <|
  .take ⟨(some 31), none, .iaddr 4 (.t 29) (.t 30)⟩ <|
  .take ⟨(some 32), none, .faddr 2 (.t 31)⟩ <|
  .take ⟨(some 33), none, .load false 1 (.t 32)⟩ <|
  .take ⟨(some 36), none, .mov (.t 0)⟩ <|
  .take ⟨(some 37), none, .mov (.t 4)⟩ <|
  .take ⟨(some 38), none, .iaddr 4 (.t 36) (.t 37)⟩ <|
  .take ⟨(some 39), none, .faddr 3 (.t 38)⟩ <|
  .take ⟨(some 40), none, .load false 1 (.t 39)⟩ <|
  .one ⟨(some 20), none, .call (.c (.g (.fn 33))) [(.t 19)]⟩ <|
  .take ⟨(some 21), none, .bin .add (.t 14) (.t 20)⟩ <|
  .one ⟨(some 27), none, .call (.c (.g (.fn 34))) [(.t 26)]⟩ <|
  .take ⟨(some 28), none, .bin .add (.t 21) (.t 27)⟩ <|
  .one ⟨(some 34), none, .call (.c (.g (.fn 34))) [(.t 33)]⟩ <|
  .take ⟨(some 35), none, .bin .add (.t 28) (.t 34)⟩ <|
  .one ⟨(some 41), none, .call (.c (.g (.fn 32))) [(.t 40)]⟩ <|
  .take ⟨(some 42), none, .bin .add (.t 35) (.t 41)⟩ <|
  .free <|
  .take ⟨(some 3), none, .mov (.t 42)⟩ <|
  .leaf) <|
 .reg [0, 3, 4] [⟨(some 12), none, .mov (.t 4)⟩,
   ⟨(some 13), none, .bin .add (.t 12) (.c (.g (.int .i64 1)))⟩,
   ⟨(some 4), none, .mov (.t 13)⟩]
def F35 : IFunc := ⟨1, 44, [.tmp 2], false,
 .seq (.reg [0] [⟨(some 2), none, .mov (.c (.g (.str [])))⟩]) <|
 .seq (.reg [0, 3] [⟨(some 5), none, .mov (.t 0)⟩,
    ⟨(some 6), none, .len (.t 5)⟩,
    ⟨(some 7), none, .call (.c (.g (.fn 32))) [(.t 6)]⟩,
    ⟨(some 3), none, .mov (.t 7)⟩]) <|
 .seq (.seq (.reg [0, 3, 4] [⟨(some 4), none, .mov (.c (.g (.int .i64 0)))⟩]) <|
  .block [3] 0 <|
  .loop [0, 3, 4] [] L35_0) <|
 .seq (.reg [2] [⟨(some 43), none, .mov (.t 3)⟩,
    ⟨(some 2), none, .mov (.t 43)⟩]) <|
 .ret⟩
def h35 : List (List Nat) := [[0], [0, 3], [0, 3, 4], [3], [0, 3, 4], [0, 3, 4, 11], [0, 3, 4], [0, 3, 4], [0, 3, 4], [], [0, 3, 4], [2]]
theorem c35 : cFunc Try.prog 35 false h35 = some F35 := by kernel_rfl

/-- (*baton/wire.reader).n -/
def F36 : IFunc := ⟨1, 45, [.tmp 2], false,
 .seq (.reg [0] [⟨(some 2), none, .mov (.c (.g (.int .i64 0)))⟩]) <|
 .seq (.reg [0, 3, 4, 5] [⟨(some 7), none, .mov (.t 0)⟩,
    ⟨(some 8), none, .nilchk (.t 7)⟩,
    ⟨(some 9), none, .faddr 0 (.t 8)⟩,
    ⟨(some 10), none, .load false 1 (.t 9)⟩,
    ⟨(some 11), none, .call (.c (.g (.fn 75))) [(.t 10), (.c (.g (.int .i64 0)))]⟩,
    ⟨(some 6), none, .mov (.t 11)⟩,
    ⟨(some 12), none, .ext 0 (.t 6)⟩,
    ⟨(some 13), none, .ext 1 (.t 6)⟩,
    ⟨(some 14), none, .ext 2 (.t 6)⟩,
    ⟨(some 3), none, .mov (.t 12)⟩,
    ⟨(some 4), none, .mov (.t 13)⟩,
    ⟨(some 5), none, .mov (.t 14)⟩]) <|
 .seq (.seq (.reg [0, 3, 4] [⟨(some 15), none, .mov (.t 0)⟩,
     ⟨(some 16), none, .mov (.t 0)⟩,
     ⟨(some 17), none, .nilchk (.t 16)⟩,
     ⟨(some 18), none, .faddr 1 (.t 17)⟩,
     ⟨(some 19), none, .load false 1 (.t 18)⟩,
     ⟨(some 20), none, .mov (.t 19)⟩,
     ⟨(some 21), (some (20, false)), .mov (.t 5)⟩,
     ⟨(some 22), (some (20, false)), .bin .neq (.t 21) (.c (.g (.int .i64 0)))⟩,
     ⟨(some 23), none, .pick (.t 20) (.c (.g (.bool true))) (.t 22)⟩,
     ⟨(some 24), none, .mov (.t 23)⟩,
     ⟨(some 25), (some (24, false)), .mov (.t 3)⟩,
     ⟨(some 26), (some (24, false)), .bin .gtr (.t 25) (.c (.g (.int .u64 1099511627775)))⟩,
     ⟨(some 27), none, .pick (.t 24) (.c (.g (.bool true))) (.t 26)⟩,
     ⟨(some 28), none, .nilchk (.t 15)⟩,
     ⟨(some 29), none, .faddr 1 (.t 28)⟩,
     ⟨none, none, .store 1 (.t 29) (.t 27)⟩]) <|
  .seq (.reg [0, 3, 4, 33] [⟨(some 30), none, .mov (.t 0)⟩,
     ⟨(some 31), none, .nilchk (.t 30)⟩,
     ⟨(some 32), none, .faddr 1 (.t 31)⟩,
     ⟨(some 33), none, .load false 1 (.t 32)⟩]) <|
  .cond [0, 3, 4] (.t 33)
   (.seq (.reg [2] [⟨(some 2), none, .mov (.c (.g (.int .i64 0)))⟩]) <|
    .ret)
   (.skip)) <|
 .seq (.reg [3] [⟨(some 34), none, .mov (.t 0)⟩,
    ⟨(some 35), none, .mov (.t 0)⟩,
    ⟨(some 36), none, .nilchk (.t 35)⟩,
    ⟨(some 37), none, .faddr 0 (.t 36)⟩,
    ⟨(some 38), none, .load false 1 (.t 37)⟩,
    ⟨(some 39), none, .mov (.t 4)⟩,
    ⟨(some 40), none, .slcS (.t 38) (some (.t 39)) none⟩,
    ⟨(some 41), none, .nilchk (.t 34)⟩,
    ⟨(some 42), none, .faddr 0 (.t 41)⟩,
    ⟨none, none, .store 1 (.t 42) (.t 40)⟩]) <|
 .seq (.reg [2] [⟨(some 43), none, .mov (.t 3)⟩,
    ⟨(some 44), none, .conv .i64 (.t 43)⟩,
    ⟨(some 2), none, .mov (.t 44)⟩]) <|
 .ret⟩
def h36 : List (List Nat) := [[0], [0, 3, 4, 5], [0, 3, 4], [0, 3, 4, 33], [0, 3, 4], [2], [3], [2]]
theorem c36 : cFunc Try.prog 36 false h36 = some F36 := by kernel_rfl

/-- (*baton/wire.reader).b -/
def F37 : IFunc := ⟨1, 19, [.tmp 2], false,
 .seq (.reg [0] [⟨(some 2), none, .mov (.c (.g (.bool false)))⟩]) <|
 .seq (.reg [0, 3] [⟨(some 4), none, .mov (.t 0)⟩,
    ⟨(some 5), none, .call (.c (.g (.fn 36))) [(.t 4)]⟩,
    ⟨(some 3), none, .mov (.t 5)⟩]) <|
 .seq (.reg [3] [⟨(some 6), none, .mov (.t 0)⟩,
    ⟨(some 7), none, .mov (.t 0)⟩,
    ⟨(some 8), none, .nilchk (.t 7)⟩,
    ⟨(some 9), none, .faddr 1 (.t 8)⟩,
    ⟨(some 10), none, .load false 1 (.t 9)⟩,
    ⟨(some 11), none, .mov (.t 10)⟩,
    ⟨(some 12), (some (11, false)), .mov (.t 3)⟩,
    ⟨(some 13), (some (11, false)), .bin .gtr (.t 12) (.c (.g (.int .i64 1)))⟩,
    ⟨(some 14), none, .pick (.t 11) (.c (.g (.bool true))) (.t 13)⟩,
    ⟨(some 15), none, .nilchk (.t 6)⟩,
    ⟨(some 16), none, .faddr 1 (.t 15)⟩,
    ⟨none, none, .store 1 (.t 16) (.t 14)⟩]) <|
 .seq (.reg [2] [⟨(some 17), none, .mov (.t 3)⟩,
    ⟨(some 18), none, .bin .eql (.t 17) (.c (.g (.int .i64 1)))⟩,
    ⟨(some 2), none, .mov (.t 18)⟩]) <|
 .ret⟩
def h37 : List (List Nat) := [[0], [0, 3], [3], [2]]
theorem c37 : cFunc Try.prog 37 false h37 = some F37 := by kernel_rfl

/-- (*baton/wire.reader).t -/
def F38 : IFunc := ⟨1, 43, [.tmp 2], false,
 .seq (.reg [0] [⟨(some 2), none, .mov (.c (.g (.str [])))⟩]) <|
 .seq (.reg [0, 3] [⟨(some 5), none, .mov (.t 0)⟩,
    ⟨(some 6), none, .call (.c (.g (.fn 36))) [(.t 5)]⟩,
    ⟨(some 3), none, .mov (.t 6)⟩]) <|
 .seq (.seq (.reg [0, 3] [⟨(some 7), none, .mov (.t 0)⟩,
     ⟨(some 8), none, .mov (.t 0)⟩,
     ⟨(some 9), none, .nilchk (.t 8)⟩,
     ⟨(some 10), none, .faddr 1 (.t 9)⟩,
     ⟨(some 11), none, .load false 1 (.t 10)⟩,
     ⟨(some 12), none, .mov (.t 11)⟩,
     ⟨(some 13), (some (12, false)), .mov (.t 3)⟩,
     ⟨(some 14), (some (12, false)), .mov (.t 0)⟩,
     ⟨(some 15), (some (12, false)), .nilchk (.t 14)⟩,
     ⟨(some 16), (some (12, false)), .faddr 0 (.t 15)⟩,
     ⟨(some 17), (some (12, false)), .load false 1 (.t 16)⟩,
     ⟨(some 18), (some (12, false)), .lenS (.t 17)⟩,
     ⟨(some 19), (some (12, false)), .bin .gtr (.t 13) (.t 18)⟩,
     ⟨(some 20), none, .pick (.t 12) (.c (.g (.bool true))) (.t 19)⟩,
     ⟨(some 21), none, .nilchk (.t 7)⟩,
     ⟨(some 22), none, .faddr 1 (.t 21)⟩,
     ⟨none, none, .store 1 (.t 22) (.t 20)⟩]) <|
  .seq (.reg [0, 3, 26] [⟨(some 23), none, .mov (.t 0)⟩,
     ⟨(some 24), none, .nilchk (.t 23)⟩,
     ⟨(some 25), none, .faddr 1 (.t 24)⟩,
     ⟨(some 26), none, .load false 1 (.t 25)⟩]) <|
  .cond [0, 3] (.t 26)
   (.seq (.reg [2] [⟨(some 2), none, .mov (.c (.g (.str [])))⟩]) <|
    .ret)
   (.skip)) <|
 .seq (.reg [0, 3, 4] [⟨(some 27), none, .mov (.t 0)⟩,
    ⟨(some 28), none, .nilchk (.t 27)⟩,
    ⟨(some 29), none, .faddr 0 (.t 28)⟩,
    ⟨(some 30), none, .load false 1 (.t 29)⟩,
    ⟨(some 31), none, .mov (.t 3)⟩,
    ⟨(some 32), none, .slcS (.t 30) none (some (.t 31))⟩,
    ⟨(some 4), none, .mov (.t 32)⟩]) <|
 .seq (.reg [4] [⟨(some 33), none, .mov (.t 0)⟩,
    ⟨(some 34), none, .mov (.t 0)⟩,
    ⟨(some 35), none, .nilchk (.t 34)⟩,
    ⟨(some 36), none, .faddr 0 (.t 35)⟩,
    ⟨(some 37), none, .load false 1 (.t 36)⟩,
    ⟨(some 38), none, .mov (.t 3)⟩,
    ⟨(some 39), none, .slcS (.t 37) (some (.t 38)) none⟩,
    ⟨(some 40), none, .nilchk (.t 33)⟩,
    ⟨(some 41), none, .faddr 0 (.t 40)⟩,
    ⟨none, none, .store 1 (.t 41) (.t 39)⟩]) <|
 .seq (.reg [2] [⟨(some 42), none, .mov (.t 4)⟩,
    ⟨(some 2), none, .mov (.t 42)⟩]) <|
 .ret⟩
def h38 : List (List Nat) := [[0], [0, 3], [0, 3], [0, 3, 26], [0, 3], [2], [0, 3, 4], [4], [2]]
theorem c38 : cFunc Try.prog 38 false h38 = some F38 := by kernel_rfl

/-- baton/wire.list[baton/api.Cmp] -/
def L39_0 : IC :=
 .seq (.reg [0, 2, 8, 23, 24, 25] [⟨(some 25), none, .bin .lss (.t 24) (.t 23)⟩]) <|
 .seq (.cond [0, 2, 8, 23, 24] (.t 25)
   (.skip)
   (.exit 0)) <|
 .seq (.block [0, 2, 8, 23, 24] 1 <|
  .seq (.seq (.reg [0, 2, 8, 23, 24, 29] [⟨(some 26), none, .mov (.t 0)⟩,
      ⟨(some 27), none, .nilchk (.t 26)⟩,
      ⟨(some 28), none, .faddr 1 (.t 27)⟩,
      ⟨(some 29), none, .load false 1 (.t 28)⟩]) <|
   .cond [0, 2, 8, 23, 24] (.t 29)
    (.seq (.reg [6] [⟨(some 6), none, .nres 5⟩]) <|
     .ret)
    (.skip)) <|
  .reg [0, 2, 8, 23, 24] [⟨(some 30), none, .mov (.t 8)⟩,
    ⟨(some 31), none, .mov (.t 2)⟩,
    ⟨(some 32), none, .call (.t 31) []⟩,
    ⟨(some 33), none, .bslice 5 1 [.str [], .int .i64 0, .int .i64 0, .int .i64 0, .str []] [(0, 5, (.t 32))]⟩,
    ⟨(some 34), none, .app 5 56 (.t 30) (.t 33)⟩,
    ⟨(some 8), none, .mov (.t 34)⟩]) <|
 .reg [0, 2, 8, 23, 24] [⟨(some 35), none, .bin .add (.t 24) (.c (.g (.int .i64 1)))⟩,
   ⟨(some 24), none, .mov (.t 35)⟩]
def F39 : IFunc := ⟨3, 37, [.tmp 6], false,
 .seq (.reg [0, 1, 2] [⟨(some 6), none, .nres 5⟩]) <|
 .seq (.reg [0, 1, 2, 7] [⟨(some 9), none, .mov (.t 0)⟩,
    ⟨(some 10), none, .call (.c (.g (.fn 36))) [(.t 9)]⟩,
    ⟨(some 7), none, .mov (.t 10)⟩]) <|
 .seq (.reg [0, 2, 7] [⟨(some 11), none, .mov (.t 0)⟩,
    ⟨(some 12), none, .mov (.t 0)⟩,
    ⟨(some 13), none, .nilchk (.t 12)⟩,
    ⟨(some 14), none, .faddr 1 (.t 13)⟩,
    ⟨(some 15), none, .load false 1 (.t 14)⟩,
    ⟨(some 16), none, .mov (.t 15)⟩,
    ⟨(some 17), (some (16, false)), .mov (.t 7)⟩,
    ⟨(some 18), (some (16, false)), .mov (.t 1)⟩,
    ⟨(some 19), (some (16, false)), .bin .gtr (.t 17) (.t 18)⟩,
    ⟨(some 20), none, .pick (.t 16) (.c (.g (.bool true))) (.t 19)⟩,
    ⟨(some 21), none, .nilchk (.t 11)⟩,
    ⟨(some 22), none, .faddr 1 (.t 21)⟩,
    ⟨none, none, .store 1 (.t 22) (.t 20)⟩]) <|
 .seq (.reg [0, 2, 7, 8] [⟨(some 8), none, .nres 5⟩]) <|
 .seq (.seq (.reg [0, 2, 8, 23, 24] [⟨(some 23), none, .mov (.t 7)⟩,
     ⟨(some 24), none, .mov (.c (.g (.int .i64 0)))⟩]) <|
  .block [8] 0 <|
  .loop [0, 2, 8, 23, 24] [] L39_0) <|
 .seq (.reg [6] [⟨(some 36), none, .mov (.t 8)⟩,
    ⟨(some 6), none, .mov (.t 36)⟩]) <|
 .ret⟩
def h39 : List (List Nat) := [[0, 1, 2], [0, 1, 2, 7], [0, 2, 7], [0, 2, 7, 8], [0, 2, 8, 23, 24], [8], [0, 2, 8, 23, 24], [0, 2, 8, 23, 24, 25], [0, 2, 8, 23, 24], [0, 2, 8, 23, 24], [0, 2, 8, 23, 24, 29], [0, 2, 8, 23, 24], [6], [0, 2, 8, 23, 24], [0, 2, 8, 23, 24], [6]]
theorem c39 : cFunc Try.prog 39 false h39 = some F39 := by kernel_rfl

/-- (*baton/wire.reader).cmp -/
def F40 : IFunc := ⟨1, 14, [.cell 2 true 5], false,
 .seq (.reg [0, 2] [⟨(some 2), none, .alloc [.z (.str []), .z (.int .i64 0), .z (.int .i64 0), .z (.int .i64 0), .z (.str [])]⟩]) <|
 .seq (.reg [2] [⟨(some 3), none, .mov (.t 0)⟩,
    ⟨(some 4), none, .call (.c (.g (.fn 38))) [(.t 3)]⟩,
    ⟨(some 5), none, .mov (.t 0)⟩,
    ⟨(some 6), none, .call (.c (.g (.fn 36))) [(.t 5)]⟩,
    ⟨(some 7), none, .mov (.t 0)⟩,
    ⟨(some 8), none, .call (.c (.g (.fn 36))) [(.t 7)]⟩,
    ⟨(some 9), none, .mov (.t 0)⟩,
    ⟨(some 10), none, .call (.c (.g (.fn 36))) [(.t 9)]⟩,
    ⟨(some 11), none, .mov (.t 0)⟩,
    ⟨(some 12), none, .call (.c (.g (.fn 38))) [(.t 11)]⟩,
    ⟨(some 13), none, .build [.g (.str []), .g (.int .i64 0), .g (.int .i64 0), .g (.int .i64 0), .g (.str [])] [(0, 1, (.t 4)), (1, 1, (.t 6)), (2, 1, (.t 8)), (3, 1, (.t 10)), (4, 1, (.t 12))]⟩,
    ⟨none, none, .store 5 (.t 2) (.t 13)⟩]) <|
 .ret⟩
def h40 : List (List Nat) := [[0, 2], [2]]
theorem c40 : cFunc Try.prog 40 false h40 = some F40 := by kernel_rfl

/-- baton/wire.list[baton/api.Mut] -/
def L41_0 : IC :=
 .seq (.reg [0, 2, 8, 23, 24, 25] [⟨(some 25), none, .bin .lss (.t 24) (.t 23)⟩]) <|
 .seq (.cond [0, 2, 8, 23, 24] (.t 25)
   (.skip)
   (.exit 0)) <|
 .seq (.block [0, 2, 8, 23, 24] 1 <|
  .seq (.seq (.reg [0, 2, 8, 23, 24, 29] [⟨(some 26), none, .mov (.t 0)⟩,
      ⟨(some 27), none, .nilchk (.t 26)⟩,
      ⟨(some 28), none, .faddr 1 (.t 27)⟩,
      ⟨(some 29), none, .load false 1 (.t 28)⟩]) <|
   .cond [0, 2, 8, 23, 24] (.t 29)
    (.seq (.reg [6] [⟨(some 6), none, .nres 4⟩]) <|
     .ret)
    (.skip)) <|
  .reg [0, 2, 8, 23, 24] [⟨(some 30), none, .mov (.t 8)⟩,
    ⟨(some 31), none, .mov (.t 2)⟩,
    ⟨(some 32), none, .call (.t 31) []⟩,
    ⟨(some 33), none, .bslice 4 1 [.bool false, .str [], .str [], .int .i64 0] [(0, 4, (.t 32))]⟩,
    ⟨(some 34), none, .app 4 48 (.t 30) (.t 33)⟩,
    ⟨(some 8), none, .mov (.t 34)⟩]) <|
 .reg [0, 2, 8, 23, 24] [⟨(some 35), none, .bin .add (.t 24) (.c (.g (.int .i64 1)))⟩,
   ⟨(some 24), none, .mov (.t 35)⟩]
def F41 : IFunc := ⟨3, 37, [.tmp 6], false,
 .seq (.reg [0, 1, 2] [⟨(some 6), none, .nres 4⟩]) <|
 .seq (.reg [0, 1, 2, 7] [⟨(some 9), none, .mov (.t 0)⟩,
    ⟨(some 10), none, .call (.c (.g (.fn 36))) [(.t 9)]⟩,
    ⟨(some 7), none, .mov (.t 10)⟩]) <|
 .seq (.reg [0, 2, 7] [⟨(some 11), none, .mov (.t 0)⟩,
    ⟨(some 12), none, .mov (.t 0)⟩,
    ⟨(some 13), none, .nilchk (.t 12)⟩,
    ⟨(some 14), none, .faddr 1 (.t 13)⟩,
    ⟨(some 15), none, .load false 1 (.t 14)⟩,
    ⟨(some 16), none, .mov (.t 15)⟩,
    ⟨(some 17), (some (16, false)), .mov (.t 7)⟩,
    ⟨(some 18), (some (16, false)), .mov (.t 1)⟩,
    ⟨(some 19), (some (16, false)), .bin .gtr (.t 17) (.t 18)⟩,
    ⟨(some 20), none, .pick (.t 16) (.c (.g (.bool true))) (.t 19)⟩,
    ⟨(some 21), none, .nilchk (.t 11)⟩,
    ⟨(some 22), none, .faddr 1 (.t 21)⟩,
    ⟨none, none, .store 1 (.t 22) (.t 20)⟩]) <|
 .seq (.reg [0, 2, 7, 8] [⟨(some 8), none, .nres 4⟩]) <|
 .seq (.seq (.reg [0, 2, 8, 23, 24] [⟨(some 23), none, .mov (.t 7)⟩,
     ⟨(some 24), none, .mov (.c (.g (.int .i64 0)))⟩]) <|
  .block [8] 0 <|
  .loop [0, 2, 8, 23, 24] [] L41_0) <|
 .seq (.reg [6] [⟨(some 36), none, .mov (.t 8)⟩,
    ⟨(some 6), none, .mov (.t 36)⟩]) <|
 .ret⟩
def h41 : List (List Nat) := [[0, 1, 2], [0, 1, 2, 7], [0, 2, 7], [0, 2, 7, 8], [0, 2, 8, 23, 24], [8], [0, 2, 8, 23, 24], [0, 2, 8, 23, 24, 25], [0, 2, 8, 23, 24], [0, 2, 8, 23, 24], [0, 2, 8, 23, 24, 29], [0, 2, 8, 23, 24], [6], [0, 2, 8, 23, 24], [0, 2, 8, 23, 24], [6]]
theorem c41 : cFunc Try.prog 41 false h41 = some F41 := by kernel_rfl

/-- (*baton/wire.reader).mut -/
def F42 : IFunc := ⟨1, 12, [.cell 2 true 4], false,
 .seq (.reg [0, 2] [⟨(some 2), none, .alloc [.z (.bool false), .z (.str []), .z (.str []), .z (.int .i64 0)]⟩]) <|
 .seq (.reg [2] [⟨(some 3), none, .mov (.t 0)⟩,
    ⟨(some 4), none, .call (.c (.g (.fn 37))) [(.t 3)]⟩,
    ⟨(some 5), none, .mov (.t 0)⟩,
    ⟨(some 6), none, .call (.c (.g (.fn 38))) [(.t 5)]⟩,
    ⟨(some 7), none, .mov (.t 0)⟩,
    ⟨(some 8), none, .call (.c (.g (.fn 38))) [(.t 7)]⟩,
    ⟨(some 9), none, .mov (.t 0)⟩,
    ⟨(some 10), none, .call (.c (.g (.fn 36))) [(.t 9)]⟩,
    ⟨(some 11), none, .build [.g (.bool false), .g (.str []), .g (.str []), .g (.int .i64 0)] [(0, 1, (.t 4)), (1, 1, (.t 6)), (2, 1, (.t 8)), (3, 1, (.t 10))]⟩,
    ⟨none, none, .store 4 (.t 2) (.t 11)⟩]) <|
 .ret⟩
def h42 : List (List Nat) := [[0, 2], [2]]
theorem c42 : cFunc Try.prog 42 false h42 = some F42 := by kernel_rfl

/-- (*baton/wire.reader).end -/
def F43 : IFunc := ⟨1, 15, [.tmp 2], false,
 .seq (.reg [0] [⟨(some 2), none, .mov (.c (.g (.bool false)))⟩]) <|
 .seq (.reg [2] [⟨(some 3), none, .mov (.t 0)⟩,
    ⟨(some 4), none, .nilchk (.t 3)⟩,
    ⟨(some 5), none, .faddr 1 (.t 4)⟩,
    ⟨(some 6), none, .load false 1 (.t 5)⟩,
    ⟨(some 7), none, .un .not (.t 6)⟩,
    ⟨(some 8), none, .mov (.t 7)⟩,
    ⟨(some 9), (some (8, true)), .mov (.t 0)⟩,
    ⟨(some 10), (some (8, true)), .nilchk (.t 9)⟩,
    ⟨(some 11), (some (8, true)), .faddr 0 (.t 10)⟩,
    ⟨(some 12), (some (8, true)), .load false 1 (.t 11)⟩,
    ⟨(some 13), (some (8, true)), .bin .eql (.t 12) (.c (.g (.str [])))⟩,
    ⟨(some 14), none, .pick (.t 8) (.t 13) (.c (.g (.bool false)))⟩,
    ⟨(some 2), none, .mov (.t 14)⟩]) <|
 .ret⟩
def h43 : List (List Nat) := [[0], [2]]
theorem c43 : cFunc Try.prog 43 false h43 = some F43 := by kernel_rfl

/-- (*baton/batonref03.reader).n -/
def F44 : IFunc := ⟨1, 40, [.tmp 2], false,
 .seq (.reg [0] [⟨(some 2), none, .mov (.c (.g (.int .i64 0)))⟩]) <|
 .seq (.drw [0, 3, 4, 5] 0 <|
  .take ⟨(some 7), none, .mov (.t 0)⟩ <|
  .take ⟨(some 8), none, .nilchk (.t 7)⟩ <|
  .take ⟨(some 9), none, .faddr 0 (.t 8)⟩ <|
  .take ⟨(some 10), none, .load false 1 (.t 9)⟩ <|
  .take ⟨(some 11), none, .mov (.t 0)⟩ <|
  .take ⟨(some 12), none, .nilchk (.t 11)⟩ <|
  .take ⟨(some 13), none, .faddr 1 (.t 12)⟩ <|
  .take ⟨(some 14), none, .load false 1 (.t 13)⟩ <|
  .one ⟨(some 15), none, .call (.c (.g (.fn 76))) [(.t 10), (.t 14)]⟩ <|
  .take ⟨(some 6), none, .mov (.t 15)⟩ <|
  .take ⟨(some 16), none, .ext 0 (.t 6)⟩ <|
  .take ⟨(some 17), none, .ext 1 (.t 6)⟩ <|
  .take ⟨(some 18), none, .ext 2 (.t 6)⟩ <|
  .free <|
  .take ⟨(some 3), none, .mov (.t 16)⟩ <|
  .take ⟨(some 4), none, .mov (.t 17)⟩ <|
  .take ⟨(some 5), none, .mov (.t 18)⟩ <|
  .leaf) <|
 .seq (.seq (.reg [0, 3, 4, 30] [⟨(some 19), none, .mov (.t 0)⟩,
     ⟨(some 20), none, .nilchk (.t 19)⟩,
     ⟨(some 21), none, .faddr 2 (.t 20)⟩,
     ⟨(some 22), none, .load false 1 (.t 21)⟩,
     ⟨(some 23), none, .mov (.t 22)⟩,
     ⟨(some 24), (some (23, false)), .mov (.t 5)⟩,
     ⟨(some 25), (some (23, false)), .bin .neq (.t 24) (.c (.g (.int .i64 0)))⟩,
     ⟨(some 26), none, .pick (.t 23) (.c (.g (.bool true))) (.t 25)⟩,
     ⟨(some 27), none, .mov (.t 26)⟩,
     ⟨(some 28), (some (27, false)), .mov (.t 3)⟩,
     ⟨(some 29), (some (27, false)), .bin .gtr (.t 28) (.c (.g (.int .u64 1099511627775)))⟩,
     ⟨(some 30), none, .pick (.t 27) (.c (.g (.bool true))) (.t 29)⟩]) <|
  .cond [0, 3, 4] (.t 30)
   (.seq (.reg [] [⟨(some 31), none, .mov (.t 0)⟩,
       ⟨(some 32), none, .nilchk (.t 31)⟩,
       ⟨(some 33), none, .faddr 2 (.t 32)⟩,
       ⟨none, none, .store 1 (.t 33) (.c (.g (.bool true)))⟩]) <|
    .seq (.reg [2] [⟨(some 2), none, .mov (.c (.g (.int .i64 0)))⟩]) <|
    .ret)
   (.skip)) <|
 .seq (.reg [3] [⟨(some 34), none, .mov (.t 0)⟩,
    ⟨(some 35), none, .mov (.t 4)⟩,
    ⟨(some 36), none, .nilchk (.t 34)⟩,
    ⟨(some 37), none, .faddr 1 (.t 36)⟩,
    ⟨none, none, .store 1 (.t 37) (.t 35)⟩]) <|
 .seq (.reg [2] [⟨(some 38), none, .mov (.t 3)⟩,
    ⟨(some 39), none, .conv .i64 (.t 38)⟩,
    ⟨(some 2), none, .mov (.t 39)⟩]) <|
 .ret⟩
def h44 : List (List Nat) := [[0], [0, 3, 4, 5], [], [0, 3, 4, 30], [0, 3, 4], [], [2], [3], [2]]
theorem c44 : cFunc Try.prog 44 false h44 = some F44 := by kernel_rfl

/-- (*baton/batonref03.reader).b -/
def F45 : IFunc := ⟨1, 13, [.tmp 2], false,
 .seq (.reg [0] [⟨(some 2), none, .mov (.c (.g (.bool false)))⟩]) <|
 .seq (.reg [0, 3] [⟨(some 4), none, .mov (.t 0)⟩,
    ⟨(some 5), none, .call (.c (.g (.fn 44))) [(.t 4)]⟩,
    ⟨(some 3), none, .mov (.t 5)⟩]) <|
 .seq (.seq (.reg [0, 3, 7] [⟨(some 6), none, .mov (.t 3)⟩,
     ⟨(some 7), none, .bin .gtr (.t 6) (.c (.g (.int .i64 1)))⟩]) <|
  .cond [3] (.t 7)
   (.reg [3] [⟨(some 8), none, .mov (.t 0)⟩,
      ⟨(some 9), none, .nilchk (.t 8)⟩,
      ⟨(some 10), none, .faddr 2 (.t 9)⟩,
      ⟨none, none, .store 1 (.t 10) (.c (.g (.bool true)))⟩])
   (.skip)) <|
 .seq (.reg [2] [⟨(some 11), none, .mov (.t 3)⟩,
    ⟨(some 12), none, .bin .eql (.t 11) (.c (.g (.int .i64 1)))⟩,
    ⟨(some 2), none, .mov (.t 12)⟩]) <|
 .ret⟩
def h45 : List (List Nat) := [[0], [0, 3], [0, 3, 7], [3], [3], [2]]
theorem c45 : cFunc Try.prog 45 false h45 = some F45 := by kernel_rfl

/-- (*baton/batonref03.reader).t -/
def F46 : IFunc := ⟨1, 51, [.tmp 2], false,
 .seq (.reg [0] [⟨(some 2), none, .mov (.c (.g (.str [])))⟩]) <|
 .seq (.reg [0, 3] [⟨(some 4), none, .mov (.t 0)⟩,
    ⟨(some 5), none, .call (.c (.g (.fn 44))) [(.t 4)]⟩,
    ⟨(some 3), none, .mov (.t 5)⟩]) <|
 .seq (.seq (.drw [0, 3, 23] 0 <|
   .take ⟨(some 6), none, .mov (.t 0)⟩ <|
   .take ⟨(some 7), none, .nilchk (.t 6)⟩ <|
   .take ⟨(some 8), none, .faddr 2 (.t 7)⟩ <|
   .take ⟨(some 9), none, .load false 1 (.t 8)⟩ <|
   .take ⟨(some 10), none, .mov (.t 9)⟩ <|
   .take ⟨(some 11), (some (10, false)), .mov (.t 3)⟩ <|
   .take ⟨(some 12), (some (10, false)), .mov (.t 0)⟩ <|
   .take ⟨(some 13), (some (10, false)), .nilchk (.t 12)⟩ <|
   .take ⟨(some 14), (some (10, false)), .faddr 0 (.t 13)⟩ <|
   .take ⟨(some 15), (some (10, false)), .load false 1 (.t 14)⟩ <|
   .take ⟨(some 16), (some (10, false)), .lenS (.t 15)⟩ <|
   .take ⟨(some 17), (some (10, false)), .mov (.t 0)⟩ <|
   .take ⟨(some 18), (some (10, false)), .nilchk (.t 17)⟩ <|
   .take ⟨(some 19), (some (10, false)), .faddr 1 (.t 18)⟩ <|
   .take ⟨(some 20), (some (10, false)), .load false 1 (.t 19)⟩ <|
   .take ⟨(some 21), (some (10, false)), .bin .sub (.t 16) (.t 20)⟩ <|
   .take ⟨(some 22), (some (10, false)), .bin .gtr (.t 11) (.t 21)⟩ <|
   .take ⟨(some 23), none, .pick (.t 10) (.c (.g (.bool true))) (.t 22)⟩ <|
   .leaf) <|
  .cond [0, 3] (.t 23)
   (.seq (.reg [] [⟨(some 24), none, .mov (.t 0)⟩,
       ⟨(some 25), none, .nilchk (.t 24)⟩,
       ⟨(some 26), none, .faddr 2 (.t 25)⟩,
       ⟨none, none, .store 1 (.t 26) (.c (.g (.bool true)))⟩]) <|
    .seq (.reg [2] [⟨(some 2), none, .mov (.c (.g (.str [])))⟩]) <|
    .ret)
   (.skip)) <|
 .seq (.reg [0, 3] [⟨(some 27), none, .mov (.t 0)⟩,
    ⟨(some 28), none, .mov (.t 0)⟩,
    ⟨(some 29), none, .nilchk (.t 28)⟩,
    ⟨(some 30), none, .faddr 1 (.t 29)⟩,
    ⟨(some 31), none, .load false 1 (.t 30)⟩,
    ⟨(some 32), none, .mov (.t 3)⟩,
    ⟨(some 33), none, .bin .add (.t 31) (.t 32)⟩,
    ⟨(some 34), none, .nilchk (.t 27)⟩,
    ⟨(some 35), none, .faddr 1 (.t 34)⟩,
    ⟨none, none, .store 1 (.t 35) (.t 33)⟩]) <|
 .seq (.drw [2] 0 <|
  .take ⟨(some 36), none, .mov (.t 0)⟩ <|
  .take ⟨(some 37), none, .nilchk (.t 36)⟩ <|
  .take ⟨(some 38), none, .faddr 0 (.t 37)⟩ <|
  .take ⟨(some 39), none, .load false 1 (.t 38)⟩ <|
  .take ⟨(some 40), none, .mov (.t 0)⟩ <|
  .take ⟨(some 41), none, .nilchk (.t 40)⟩ <|
  .take ⟨(some 42), none, .faddr 1 (.t 41)⟩ <|
  .take ⟨(some 43), none, .load false 1 (.t 42)⟩ <|
  .take ⟨(some 44), none, .mov (.t 3)⟩ <|
  .take ⟨(some 45), none, .bin .sub (.t 43) (.t 44)⟩ <|
  .take ⟨(some 46), none, .mov (.t 0)⟩ <|
  .take ⟨(some 47), none, .nilchk (.t 46)⟩ <|
  .take ⟨(some 48), none, .faddr 1 (.t 47)⟩ <|
  .take ⟨(some 49), none, .load false 1 (.t 48)⟩ <|
  .take ⟨(some 50), none, .slcS (.t 39) (some (.t 45)) (some (.t 49))⟩ <|
  .free <|
  .take ⟨(some 2), none, .mov (.t 50)⟩ <|
  .leaf) <|
 .ret⟩
def h46 : List (List Nat) := [[0], [0, 3], [0, 3, 23], [], [0, 3], [], [2], [0, 3], [2], []]
theorem c46 : cFunc Try.prog 46 false h46 = some F46 := by kernel_rfl

/-- (*baton/batonref03.reader).muts -/
def L47_0 : IC :=
 .seq (.seq (.reg [0, 3, 4, 5, 22] [⟨(some 9), none, .mov (.t 5)⟩,
     ⟨(some 10), none, .mov (.t 4)⟩,
     ⟨(some 11), none, .bin .lss (.t 9) (.t 10)⟩,
     ⟨(some 12), none, .mov (.t 11)⟩,
     ⟨(some 13), (some (12, true)), .mov (.t 0)⟩,
     ⟨(some 14), (some (12, true)), .nilchk (.t 13)⟩,
     ⟨(some 15), (some (12, true)), .faddr 2 (.t 14)⟩,
     ⟨(some 16), (some (12, true)), .load false 1 (.t 15)⟩,
     ⟨(some 17), (some (12, true)), .un .not (.t 16)⟩,
     ⟨(some 18), none, .pick (.t 12) (.t 17) (.c (.g (.bool false)))⟩,
     ⟨(some 19), none, .mov (.t 18)⟩,
     ⟨(some 20), (some (19, true)), .mov (.t 5)⟩,
     ⟨(some 21), (some (19, true)), .bin .leq (.t 20) (.c (.g (.int .i64 4)))⟩,
     ⟨(some 22), none, .pick (.t 19) (.t 21) (.c (.g (.bool false)))⟩]) <|
  .cond [0, 3, 4, 5] (.t 22)
   (.skip)
   (.exit 0)) <|
 .seq (.block [0, 3, 4, 5] 1 <|
  .seq (.reg [0, 3, 4, 5, 6] [⟨(some 25), none, .mov (.t 0)⟩,
     ⟨(some 26), none, .call (.c (.g (.fn 45))) [(.t 25)]⟩,
     ⟨(some 27), none, .build [.g (.bool false), .g (.str []), .g (.str []), .g (.int .i64 0)] [(0, 1, (.t 26))]⟩,
     ⟨(some 6), none, .alloc [.z (.bool false), .z (.str []), .z (.str []), .z (.int .i64 0)]⟩,
     ⟨none, none, .store 4 (.t 6) (.t 27)⟩]) <|
  .seq (.reg [0, 3, 4, 5, 6] [⟨(some 28), none, .mov (.t 0)⟩,
     ⟨(some 29), none, .call (.c (.g (.fn 46))) [(.t 28)]⟩,
     ⟨(some 30), none, .faddr 1 (.t 6)⟩,
     ⟨none, none, .store 1 (.t 30) (.t 29)⟩]) <|
  .seq (.reg [0, 3, 4, 5, 6] [⟨(some 31), none, .mov (.t 0)⟩,
     ⟨(some 32), none, .call (.c (.g (.fn 46))) [(.t 31)]⟩,
     ⟨(some 33), none, .faddr 2 (.t 6)⟩,
     ⟨none, none, .store 1 (.t 33) (.t 32)⟩]) <|
  .seq (.reg [0, 3, 4, 5, 6] [⟨(some 34), none, .mov (.t 0)⟩,
     ⟨(some 35), none, .call (.c (.g (.fn 44))) [(.t 34)]⟩,
     ⟨(some 36), none, .faddr 3 (.t 6)⟩,
     ⟨none, none, .store 1 (.t 36) (.t 35)⟩]) <|
  .reg [0, 3, 4, 5] [⟨(some 37), none, .mov (.t 3)⟩,
    ⟨(some 38), none, .load true 4 (.t 6)⟩,
    ⟨(some 39), none, .bslice 4 1 [.bool false, .str [], .str [], .int .i64 0] [(0, 4, (.t 38))]⟩,
    ⟨(some 40), none, .app 4 48 (.t 37) (.t 39)⟩,
    ⟨(some 3), none, .mov (.t 40)⟩]) <|
 .reg [0, 3, 4, 5] [⟨(some 23), none, .mov (.t 5)⟩,
   ⟨(some 24), none, .bin .add (.t 23) (.c (.g (.int .i64 1)))⟩,
   ⟨(some 5), none, .mov (.t 24)⟩]
def F47 : IFunc := ⟨1, 42, [.tmp 2], false,
 .seq (.reg [0] [⟨(some 2), none, .nres 4⟩]) <|
 .seq (.reg [0, 3] [⟨(some 3), none, .nres 4⟩]) <|
 .seq (.reg [0, 3, 4] [⟨(some 7), none, .mov (.t 0)⟩,
    ⟨(some 8), none, .call (.c (.g (.fn 44))) [(.t 7)]⟩,
    ⟨(some 4), none, .mov (.t 8)⟩]) <|
 .seq (.seq (.reg [0, 3, 4, 5] [⟨(some 5), none, .mov (.c (.g (.int .i64 0)))⟩]) <|
  .block [3] 0 <|
  .loop [0, 3, 4, 5] [] L47_0) <|
 .seq (.reg [2] [⟨(some 41), none, .mov (.t 3)⟩,
    ⟨(some 2), none, .mov (.t 41)⟩]) <|
 .ret⟩
def h47 : List (List Nat) := [[0], [0, 3], [0, 3, 4], [0, 3, 4, 5], [3], [0, 3, 4, 5], [0, 3, 4, 5, 22], [0, 3, 4, 5], [0, 3, 4, 5], [0, 3, 4, 5, 6], [0, 3, 4, 5, 6], [0, 3, 4, 5, 6], [0, 3, 4, 5, 6], [0, 3, 4, 5], [0, 3, 4, 5], [2]]
theorem c47 : cFunc Try.prog 47 false h47 = some F47 := by kernel_rfl

/-- baton/wire.texts -/
def F48 : IFunc := ⟨2, 13, [.tmp 4], false,
 .seq (.reg [0, 1] [⟨(some 4), none, .mov (.c (.g (.bool false)))⟩]) <|
 .seq (.reg [4] [⟨(some 5), none, .mov (.t 0)⟩,
    ⟨(some 6), none, .lenS (.t 5)⟩,
    ⟨(some 7), none, .bin .leq (.t 6) (.c (.g (.int .i64 40)))⟩,
    ⟨(some 8), none, .mov (.t 7)⟩,
    ⟨(some 9), (some (8, true)), .mov (.t 1)⟩,
    ⟨(some 10), (some (8, true)), .lenS (.t 9)⟩,
    ⟨(some 11), (some (8, true)), .bin .leq (.t 10) (.c (.g (.int .i64 20)))⟩,
    ⟨(some 12), none, .pick (.t 8) (.t 11) (.c (.g (.bool false)))⟩,
    ⟨(some 4), none, .mov (.t 12)⟩]) <|
 .ret⟩
def h48 : List (List Nat) := [[0, 1], [4]]
theorem c48 : cFunc Try.prog 48 false h48 = some F48 := by kernel_rfl

/-- baton/wire.number -/
def F49 : IFunc := ⟨1, 6, [.tmp 2], false,
 .seq (.reg [0] [⟨(some 2), none, .mov (.c (.g (.bool false)))⟩]) <|
 .seq (.reg [2] [⟨(some 3), none, .mov (.t 0)⟩,
    ⟨(some 4), none, .call (.c (.g (.fn 77))) [(.t 3), (.c (.g (.fn 78)))]⟩,
    ⟨(some 5), none, .un .not (.t 4)⟩,
    ⟨(some 2), none, .mov (.t 5)⟩]) <|
 .ret⟩
def h49 : List (List Nat) := [[0], [2]]
theorem c49 : cFunc Try.prog 49 false h49 = some F49 := by kernel_rfl

/-- baton/wire.all[baton/api.Cmp] -/
def F50 : IFunc := ⟨3, 17, [.tmp 6], false,
 .seq (.reg [0, 1, 5] [⟨(some 5), none, .box (.t 2)⟩,
    ⟨(some 6), none, .mov (.c (.g (.bool false)))⟩]) <|
 .seq (.reg [6] [⟨(some 7), none, .mov (.t 0)⟩,
    ⟨(some 8), none, .len (.t 7)⟩,
    ⟨(some 9), none, .mov (.t 1)⟩,
    ⟨(some 10), none, .bin .leq (.t 8) (.t 9)⟩,
    ⟨(some 11), none, .mov (.t 10)⟩,
    ⟨(some 12), (some (11, true)), .mov (.t 0)⟩,
    ⟨(some 13), (some (11, true)), .mkfn 80 [(.t 5)]⟩,
    ⟨(some 14), (some (11, true)), .call (.c (.g (.fn 79))) [(.t 12), (.t 13)]⟩,
    ⟨(some 15), (some (11, true)), .un .not (.t 14)⟩,
    ⟨(some 16), none, .pick (.t 11) (.t 15) (.c (.g (.bool false)))⟩,
    ⟨(some 6), none, .mov (.t 16)⟩]) <|
 .ret⟩
def h50 : List (List Nat) := [[0, 1, 5], [6]]
theorem c50 : cFunc Try.prog 50 false h50 = some F50 := by kernel_rfl

end Go.Proofs.Ytenndgooepdmiaa
