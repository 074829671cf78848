/- The compiled functions of the seat, part IRb. No conditions. -/
import Derived.Test.YtlcjocciianphaaAMJ3
import Derived.Test.YtlcjocciianphaaProg
import Derived.KernelRfl
namespace Go.Proofs.Ytlcjocciianphaa
open Go Go.AM Go.Proofs
/-- baton/batonlaw08.LeaseGrants -/
def F3 : IFunc := ⟨3, 108, [.tmp 6], false,
 .seq (.reg [2, 3, 4] [⟨(some 3), none, .box (.t 0)⟩,
    ⟨(some 4), none, .box (.t 1)⟩,
    ⟨(some 6), none, .mov (.c (.g (.bool false)))⟩]) <|
 .seq (.seq (.reg [2, 3, 4, 21] [⟨(some 19), none, .load true 2 (.t 3)⟩,
     ⟨(some 20), none, .call (.c (.g (.fn 15))) [(.t 19)]⟩,
     ⟨(some 21), none, .un .not (.t 20)⟩]) <|
  .cond [2, 3, 4] (.t 21)
   (.seq (.reg [6] [⟨(some 22), none, .call (.c (.g (.fn 16))) []⟩,
       ⟨(some 6), none, .mov (.t 22)⟩]) <|
    .ret)
   (.skip)) <|
 .seq (.reg [2, 3, 4, 7, 8, 9] [⟨(some 24), none, .load true 2 (.t 3)⟩,
    ⟨(some 25), none, .iaddrA 2 1 (.t 4) (.c (.g (.int .i64 0)))⟩,
    ⟨(some 26), none, .load false 1 (.t 25)⟩,
    ⟨(some 27), none, .mov (.t 2)⟩,
    ⟨(some 28), none, .call (.c (.g (.fn 17))) [(.t 24), (.t 26), (.t 27)]⟩,
    ⟨(some 23), none, .mov (.t 28)⟩,
    ⟨(some 29), none, .ext 0 (.t 23)⟩,
    ⟨(some 30), none, .ext 1 (.t 23)⟩,
    ⟨(some 31), none, .ext 2 (.t 23)⟩,
    ⟨(some 7), none, .alloc [.z (.int .i64 0), .s 3]⟩,
    ⟨none, none, .store 2 (.t 7) (.t 29)⟩,
    ⟨(some 8), none, .mov (.t 30)⟩,
    ⟨(some 9), none, .mov (.t 31)⟩]) <|
 .seq (.reg [2, 3, 4, 7, 8, 9, 10, 11, 12] [⟨(some 33), none, .load true 2 (.t 3)⟩,
    ⟨(some 34), none, .iaddrA 2 1 (.t 4) (.c (.g (.int .i64 0)))⟩,
    ⟨(some 35), none, .load false 1 (.t 34)⟩,
    ⟨(some 36), none, .mov (.t 2)⟩,
    ⟨(some 37), none, .call (.c (.g (.fn 18))) [(.t 33), (.t 35), (.t 36)]⟩,
    ⟨(some 32), none, .mov (.t 37)⟩,
    ⟨(some 38), none, .ext 0 (.t 32)⟩,
    ⟨(some 39), none, .ext 1 (.t 32)⟩,
    ⟨(some 40), none, .ext 2 (.t 32)⟩,
    ⟨(some 10), none, .alloc [.z (.int .i64 0), .s 3]⟩,
    ⟨none, none, .store 2 (.t 10) (.t 38)⟩,
    ⟨(some 11), none, .mov (.t 39)⟩,
    ⟨(some 12), none, .mov (.t 40)⟩]) <|
 .seq (.reg [2, 3, 4, 7, 8, 9, 10, 11, 12, 13, 14, 15] [⟨(some 42), none, .load true 2 (.t 3)⟩,
    ⟨(some 43), none, .iaddrA 2 1 (.t 4) (.c (.g (.int .i64 1)))⟩,
    ⟨(some 44), none, .load false 1 (.t 43)⟩,
    ⟨(some 45), none, .mov (.t 2)⟩,
    ⟨(some 46), none, .call (.c (.g (.fn 19))) [(.t 42), (.t 44), (.t 45)]⟩,
    ⟨(some 41), none, .mov (.t 46)⟩,
    ⟨(some 47), none, .ext 0 (.t 41)⟩,
    ⟨(some 48), none, .ext 1 (.t 41)⟩,
    ⟨(some 49), none, .ext 2 (.t 41)⟩,
    ⟨(some 13), none, .alloc [.z (.int .i64 0), .s 3]⟩,
    ⟨none, none, .store 2 (.t 13) (.t 47)⟩,
    ⟨(some 14), none, .mov (.t 48)⟩,
    ⟨(some 15), none, .mov (.t 49)⟩]) <|
 .seq (.reg [3, 4, 7, 8, 9, 10, 11, 12, 13, 14, 15, 16, 17, 18] [⟨(some 51), none, .load true 2 (.t 3)⟩,
    ⟨(some 52), none, .iaddrA 2 1 (.t 4) (.c (.g (.int .i64 1)))⟩,
    ⟨(some 53), none, .load false 1 (.t 52)⟩,
    ⟨(some 54), none, .mov (.t 2)⟩,
    ⟨(some 55), none, .call (.c (.g (.fn 20))) [(.t 51), (.t 53), (.t 54)]⟩,
    ⟨(some 50), none, .mov (.t 55)⟩,
    ⟨(some 56), none, .ext 0 (.t 50)⟩,
    ⟨(some 57), none, .ext 1 (.t 50)⟩,
    ⟨(some 58), none, .ext 2 (.t 50)⟩,
    ⟨(some 16), none, .alloc [.z (.int .i64 0), .s 3]⟩,
    ⟨none, none, .store 2 (.t 16) (.t 56)⟩,
    ⟨(some 17), none, .mov (.t 57)⟩,
    ⟨(some 18), none, .mov (.t 58)⟩]) <|
 .seq (.drw [6] 0 <|
  .hold [3, 4, 7, 10, 13, 16] <|
  .take ⟨(some 59), none, .load true 2 (.t 7)⟩ <|
  .take ⟨(some 60), none, .load true 2 (.t 10)⟩ <|
  .one ⟨(some 61), none, .call (.c (.g (.fn 21))) [(.t 59), (.t 60)]⟩ <|
  .take ⟨(some 62), none, .mov (.t 61)⟩ <|
  .take ⟨(some 63), (some (62, true)), .mov (.t 8)⟩ <|
  .take ⟨(some 64), (some (62, true)), .mov (.t 11)⟩ <|
  .take ⟨(some 65), (some (62, true)), .bin .eql (.t 63) (.t 64)⟩ <|
  .take ⟨(some 66), none, .pick (.t 62) (.t 65) (.c (.g (.bool false)))⟩ <|
  .take ⟨(some 67), none, .mov (.t 66)⟩ <|
  .take ⟨(some 68), (some (67, true)), .mov (.t 9)⟩ <|
  .take ⟨(some 69), (some (67, true)), .mov (.t 12)⟩ <|
  .take ⟨(some 70), (some (67, true)), .bin .eql (.t 68) (.t 69)⟩ <|
  .take ⟨(some 71), none, .pick (.t 67) (.t 70) (.c (.g (.bool false)))⟩ <|
  .take ⟨(some 72), none, .mov (.t 71)⟩ <|
  .take ⟨(some 73), (some (72, true)), .load true 2 (.t 13)⟩ <|
  .take ⟨(some 74), (some (72, true)), .load true 2 (.t 16)⟩ <|
  .one ⟨(some 75), (some (72, true)), .call (.c (.g (.fn 21))) [(.t 73), (.t 74)]⟩ <|
  .take ⟨(some 76), none, .pick (.t 72) (.t 75) (.c (.g (.bool false)))⟩ <|
  .take ⟨(some 77), none, .mov (.t 76)⟩ <|
  .take ⟨(some 78), (some (77, true)), .mov (.t 14)⟩ <|
  .take ⟨(some 79), (some (77, true)), .mov (.t 17)⟩ <|
  .take ⟨(some 80), (some (77, true)), .bin .eql (.t 78) (.t 79)⟩ <|
  .take ⟨(some 81), none, .pick (.t 77) (.t 80) (.c (.g (.bool false)))⟩ <|
  .take ⟨(some 82), none, .mov (.t 81)⟩ <|
  .take ⟨(some 83), (some (82, true)), .mov (.t 15)⟩ <|
  .take ⟨(some 84), (some (82, true)), .mov (.t 18)⟩ <|
  .take ⟨(some 85), (some (82, true)), .bin .eql (.t 83) (.t 84)⟩ <|
  .take ⟨(some 86), none, .pick (.t 82) (.t 85) (.c (.g (.bool false)))⟩ <|
  .take ⟨(some 87), none, .mov (.t 86)⟩ <|
  .take ⟨(some 88), (some (87, true)), .load true 2 (.t 3)⟩ <|
  .take ⟨(some 90), (some (87, true)), .load true 2 (.t 3)⟩ <|
  .one ⟨(some 89), (some (87, true)), .call (.c (.g (.fn 22))) [(.t 88)]⟩ <|
  .one ⟨(some 91), (some (87, true)), .call (.c (.g (.fn 23))) [(.t 90)]⟩ <|
  .take ⟨(some 92), (some (87, true)), .eqs false false [.b] (.t 89) (.t 91)⟩ <|
  .take ⟨(some 93), none, .pick (.t 87) (.t 92) (.c (.g (.bool false)))⟩ <|
  .take ⟨(some 94), none, .mov (.t 93)⟩ <|
  .take ⟨(some 95), (some (94, true)), .load true 2 (.t 3)⟩ <|
  .take ⟨(some 96), (some (94, true)), .iaddrA 2 1 (.t 4) (.c (.g (.int .i64 1)))⟩ <|
  .take ⟨(some 97), (some (94, true)), .load false 1 (.t 96)⟩ <|
  .take ⟨(some 99), (some (94, true)), .load true 2 (.t 3)⟩ <|
  .take ⟨(some 100), (some (94, true)), .iaddrA 2 1 (.t 4) (.c (.g (.int .i64 1)))⟩ <|
  .take ⟨(some 101), (some (94, true)), .load false 1 (.t 100)⟩ <|
  .one ⟨(some 98), (some (94, true)), .call (.c (.g (.fn 24))) [(.t 95), (.t 97)]⟩ <|
  .one ⟨(some 102), (some (94, true)), .call (.c (.g (.fn 25))) [(.t 99), (.t 101)]⟩ <|
  .take ⟨(some 103), (some (94, true)), .eqs false false [.b] (.t 98) (.t 102)⟩ <|
  .take ⟨(some 104), none, .pick (.t 94) (.t 103) (.c (.g (.bool false)))⟩ <|
  .take ⟨(some 105), none, .mov (.t 104)⟩ <|
  .one ⟨(some 106), (some (105, true)), .call (.c (.g (.fn 16))) []⟩ <|
  .take ⟨(some 107), none, .pick (.t 105) (.t 106) (.c (.g (.bool false)))⟩ <|
  .free <|
  .take ⟨(some 6), none, .mov (.t 107)⟩ <|
  .leaf) <|
 .ret⟩
def h3 : List (List Nat) := [[2, 3, 4], [2, 3, 4, 21], [2, 3, 4], [6], [2, 3, 4, 7, 8, 9], [2, 3, 4, 7, 8, 9, 10, 11, 12], [2, 3, 4, 7, 8, 9, 10, 11, 12, 13, 14, 15], [3, 4, 7, 8, 9, 10, 11, 12, 13, 14, 15, 16, 17, 18], [6], [3, 4, 7, 10, 13, 16]]
theorem c3 : cFunc Try.prog 3 false h3 = some F3 := by kernel_rfl

/-- baton/batonlaw08.LeaseEnds -/
def F4 : IFunc := ⟨3, 68, [.tmp 6], false,
 .seq (.reg [1, 3, 5] [⟨(some 3), none, .box (.t 0)⟩,
    ⟨(some 5), none, .box (.t 2)⟩,
    ⟨(some 6), none, .mov (.c (.g (.bool false)))⟩]) <|
 .seq (.seq (.reg [1, 3, 5, 19] [⟨(some 11), none, .faddr 1 (.t 3)⟩,
     ⟨(some 12), none, .load false 1 (.t 11)⟩,
     ⟨(some 13), none, .len (.t 12)⟩,
     ⟨(some 14), none, .bin .gtr (.t 13) (.c (.g (.int .i64 20)))⟩,
     ⟨(some 15), none, .mov (.t 14)⟩,
     ⟨(some 16), (some (15, false)), .mov (.t 1)⟩,
     ⟨(some 17), (some (15, false)), .call (.c (.g (.fn 26))) [(.t 16), (.c (.g (.int .i64 40)))]⟩,
     ⟨(some 18), (some (15, false)), .un .not (.t 17)⟩,
     ⟨(some 19), none, .pick (.t 15) (.c (.g (.bool true))) (.t 18)⟩]) <|
  .cond [1, 3, 5] (.t 19)
   (.seq (.reg [6] [⟨(some 20), none, .call (.c (.g (.fn 16))) []⟩,
       ⟨(some 6), none, .mov (.t 20)⟩]) <|
    .ret)
   (.skip)) <|
 .seq (.reg [1, 3, 5, 7, 8] [⟨(some 22), none, .load true 2 (.t 3)⟩,
    ⟨(some 23), none, .iaddrA 2 1 (.t 5) (.c (.g (.int .i64 0)))⟩,
    ⟨(some 24), none, .load false 1 (.t 23)⟩,
    ⟨(some 25), none, .call (.c (.g (.fn 27))) [(.t 22), (.t 24)]⟩,
    ⟨(some 21), none, .mov (.t 25)⟩,
    ⟨(some 26), none, .ext 0 (.t 21)⟩,
    ⟨(some 27), none, .ext 1 (.t 21)⟩,
    ⟨(some 7), none, .alloc [.z (.int .i64 0), .s 3]⟩,
    ⟨none, none, .store 2 (.t 7) (.t 26)⟩,
    ⟨(some 8), none, .mov (.t 27)⟩]) <|
 .seq (.reg [1, 3, 5, 7, 8, 9, 10] [⟨(some 29), none, .load true 2 (.t 3)⟩,
    ⟨(some 30), none, .iaddrA 2 1 (.t 5) (.c (.g (.int .i64 0)))⟩,
    ⟨(some 31), none, .load false 1 (.t 30)⟩,
    ⟨(some 32), none, .call (.c (.g (.fn 28))) [(.t 29), (.t 31)]⟩,
    ⟨(some 28), none, .mov (.t 32)⟩,
    ⟨(some 33), none, .ext 0 (.t 28)⟩,
    ⟨(some 34), none, .ext 1 (.t 28)⟩,
    ⟨(some 9), none, .alloc [.z (.int .i64 0), .s 3]⟩,
    ⟨none, none, .store 2 (.t 9) (.t 33)⟩,
    ⟨(some 10), none, .mov (.t 34)⟩]) <|
 .seq (.drw [6] 0 <|
  .hold [3, 5, 7, 9] <|
  .take ⟨(some 35), none, .load true 2 (.t 7)⟩ <|
  .take ⟨(some 36), none, .load true 2 (.t 9)⟩ <|
  .one ⟨(some 37), none, .call (.c (.g (.fn 21))) [(.t 35), (.t 36)]⟩ <|
  .take ⟨(some 38), none, .mov (.t 37)⟩ <|
  .take ⟨(some 39), (some (38, true)), .mov (.t 8)⟩ <|
  .take ⟨(some 40), (some (38, true)), .mov (.t 10)⟩ <|
  .take ⟨(some 41), (some (38, true)), .bin .eql (.t 39) (.t 40)⟩ <|
  .take ⟨(some 42), none, .pick (.t 38) (.t 41) (.c (.g (.bool false)))⟩ <|
  .take ⟨(some 43), none, .mov (.t 42)⟩ <|
  .take ⟨(some 44), (some (43, true)), .load true 2 (.t 3)⟩ <|
  .take ⟨(some 45), (some (43, true)), .iaddrA 2 1 (.t 5) (.c (.g (.int .i64 1)))⟩ <|
  .take ⟨(some 46), (some (43, true)), .load false 1 (.t 45)⟩ <|
  .take ⟨(some 48), (some (43, true)), .load true 2 (.t 3)⟩ <|
  .take ⟨(some 49), (some (43, true)), .iaddrA 2 1 (.t 5) (.c (.g (.int .i64 1)))⟩ <|
  .take ⟨(some 50), (some (43, true)), .load false 1 (.t 49)⟩ <|
  .one ⟨(some 47), (some (43, true)), .call (.c (.g (.fn 30))) [(.t 44), (.t 46)]⟩ <|
  .one ⟨(some 51), (some (43, true)), .call (.c (.g (.fn 31))) [(.t 48), (.t 50)]⟩ <|
  .one ⟨(some 52), (some (43, true)), .call (.c (.g (.fn 29))) [(.t 47), (.t 51)]⟩ <|
  .take ⟨(some 53), none, .pick (.t 43) (.t 52) (.c (.g (.bool false)))⟩ <|
  .take ⟨(some 54), none, .mov (.t 53)⟩ <|
  .take ⟨(some 55), (some (54, true)), .mov (.t 1)⟩ <|
  .take ⟨(some 56), (some (54, true)), .iaddrA 2 1 (.t 5) (.c (.g (.int .i64 0)))⟩ <|
  .take ⟨(some 57), (some (54, true)), .load false 1 (.t 56)⟩ <|
  .take ⟨(some 59), (some (54, true)), .mov (.t 1)⟩ <|
  .take ⟨(some 60), (some (54, true)), .iaddrA 2 1 (.t 5) (.c (.g (.int .i64 0)))⟩ <|
  .take ⟨(some 61), (some (54, true)), .load false 1 (.t 60)⟩ <|
  .one ⟨(some 58), (some (54, true)), .call (.c (.g (.fn 33))) [(.t 55), (.t 57)]⟩ <|
  .one ⟨(some 62), (some (54, true)), .call (.c (.g (.fn 34))) [(.t 59), (.t 61)]⟩ <|
  .one ⟨(some 63), (some (54, true)), .call (.c (.g (.fn 32))) [(.t 58), (.t 62)]⟩ <|
  .take ⟨(some 64), none, .pick (.t 54) (.t 63) (.c (.g (.bool false)))⟩ <|
  .take ⟨(some 65), none, .mov (.t 64)⟩ <|
  .one ⟨(some 66), (some (65, true)), .call (.c (.g (.fn 16))) []⟩ <|
  .take ⟨(some 67), none, .pick (.t 65) (.t 66) (.c (.g (.bool false)))⟩ <|
  .free <|
  .take ⟨(some 6), none, .mov (.t 67)⟩ <|
  .leaf) <|
 .ret⟩
def h4 : List (List Nat) := [[1, 3, 5], [1, 3, 5, 19], [1, 3, 5], [6], [1, 3, 5, 7, 8], [1, 3, 5, 7, 8, 9, 10], [6], [3, 5, 7, 9]]
theorem c4 : cFunc Try.prog 4 false h4 = some F4 := by kernel_rfl

/-- baton/batonlaw08.LeaseMay -/
def F5 : IFunc := ⟨3, 170, [.tmp 6], false,
 .seq (.reg [2, 3, 4] [⟨(some 3), none, .box (.t 0)⟩,
    ⟨(some 4), none, .box (.t 1)⟩,
    ⟨(some 6), none, .mov (.c (.g (.bool false)))⟩]) <|
 .seq (.seq (.reg [2, 3, 4, 23] [⟨(some 16), none, .load true 2 (.t 3)⟩,
     ⟨(some 17), none, .call (.c (.g (.fn 22))) [(.t 16)]⟩,
     ⟨(some 18), none, .un .not (.t 17)⟩,
     ⟨(some 19), none, .mov (.t 18)⟩,
     ⟨(some 20), (some (19, false)), .load true 2 (.t 3)⟩,
     ⟨(some 21), (some (19, false)), .call (.c (.g (.fn 23))) [(.t 20)]⟩,
     ⟨(some 22), (some (19, false)), .un .not (.t 21)⟩,
     ⟨(some 23), none, .pick (.t 19) (.c (.g (.bool true))) (.t 22)⟩]) <|
  .cond [2, 3, 4] (.t 23)
   (.seq (.drw [6] 0 <|
     .take ⟨(some 24), none, .load true 2 (.t 3)⟩ <|
     .take ⟨(some 26), none, .load true 2 (.t 3)⟩ <|
     .one ⟨(some 25), none, .call (.c (.g (.fn 22))) [(.t 24)]⟩ <|
     .one ⟨(some 27), none, .call (.c (.g (.fn 23))) [(.t 26)]⟩ <|
     .take ⟨(some 28), none, .eqs false false [.b] (.t 25) (.t 27)⟩ <|
     .take ⟨(some 29), none, .mov (.t 28)⟩ <|
     .one ⟨(some 30), (some (29, true)), .call (.c (.g (.fn 16))) []⟩ <|
     .take ⟨(some 31), none, .pick (.t 29) (.t 30) (.c (.g (.bool false)))⟩ <|
     .free <|
     .take ⟨(some 6), none, .mov (.t 31)⟩ <|
     .leaf) <|
    .ret)
   (.skip)) <|
 .seq (.reg [2, 3, 4, 7, 8, 9] [⟨(some 33), none, .load true 2 (.t 3)⟩,
    ⟨(some 34), none, .iaddrA 2 1 (.t 4) (.c (.g (.int .i64 0)))⟩,
    ⟨(some 35), none, .load false 1 (.t 34)⟩,
    ⟨(some 36), none, .mov (.t 2)⟩,
    ⟨(some 37), none, .call (.c (.g (.fn 17))) [(.t 33), (.t 35), (.t 36)]⟩,
    ⟨(some 32), none, .mov (.t 37)⟩,
    ⟨(some 38), none, .ext 0 (.t 32)⟩,
    ⟨(some 39), none, .ext 1 (.t 32)⟩,
    ⟨(some 40), none, .ext 2 (.t 32)⟩,
    ⟨(some 7), none, .alloc [.z (.int .i64 0), .s 3]⟩,
    ⟨none, none, .store 2 (.t 7) (.t 38)⟩,
    ⟨(some 8), none, .mov (.t 39)⟩,
    ⟨(some 9), none, .mov (.t 40)⟩]) <|
 .seq (.reg [2, 3, 4, 7, 8, 9, 10, 11, 12] [⟨(some 42), none, .load true 2 (.t 3)⟩,
    ⟨(some 43), none, .iaddrA 2 1 (.t 4) (.c (.g (.int .i64 1)))⟩,
    ⟨(some 44), none, .load false 1 (.t 43)⟩,
    ⟨(some 45), none, .mov (.t 2)⟩,
    ⟨(some 46), none, .call (.c (.g (.fn 19))) [(.t 42), (.t 44), (.t 45)]⟩,
    ⟨(some 41), none, .mov (.t 46)⟩,
    ⟨(some 47), none, .ext 0 (.t 41)⟩,
    ⟨(some 48), none, .ext 1 (.t 41)⟩,
    ⟨(some 49), none, .ext 2 (.t 41)⟩,
    ⟨(some 10), none, .alloc [.z (.int .i64 0), .s 3]⟩,
    ⟨none, none, .store 2 (.t 10) (.t 47)⟩,
    ⟨(some 11), none, .mov (.t 48)⟩,
    ⟨(some 12), none, .mov (.t 49)⟩]) <|
 .seq (.reg [2, 3, 4, 7, 8, 9, 10, 11, 12, 13, 14] [⟨(some 51), none, .load true 2 (.t 3)⟩,
    ⟨(some 52), none, .iaddrA 2 1 (.t 4) (.c (.g (.int .i64 1)))⟩,
    ⟨(some 53), none, .load false 1 (.t 52)⟩,
    ⟨(some 54), none, .call (.c (.g (.fn 27))) [(.t 51), (.t 53)]⟩,
    ⟨(some 50), none, .mov (.t 54)⟩,
    ⟨(some 55), none, .ext 0 (.t 50)⟩,
    ⟨(some 56), none, .ext 1 (.t 50)⟩,
    ⟨(some 13), none, .alloc [.z (.int .i64 0), .s 3]⟩,
    ⟨none, none, .store 2 (.t 13) (.t 55)⟩,
    ⟨(some 14), none, .mov (.t 56)⟩]) <|
 .seq (.seq (.reg [2, 3, 4, 7, 8, 9, 10, 11, 12, 13, 14, 69] [⟨(some 57), none, .load true 2 (.t 7)⟩,
     ⟨(some 58), none, .call (.c (.g (.fn 22))) [(.t 57)]⟩,
     ⟨(some 59), none, .un .not (.t 58)⟩,
     ⟨(some 60), none, .mov (.t 59)⟩,
     ⟨(some 61), (some (60, false)), .load true 2 (.t 10)⟩,
     ⟨(some 62), (some (60, false)), .call (.c (.g (.fn 22))) [(.t 61)]⟩,
     ⟨(some 63), (some (60, false)), .un .not (.t 62)⟩,
     ⟨(some 64), none, .pick (.t 60) (.c (.g (.bool true))) (.t 63)⟩,
     ⟨(some 65), none, .mov (.t 64)⟩,
     ⟨(some 66), (some (65, false)), .load true 2 (.t 13)⟩,
     ⟨(some 67), (some (65, false)), .call (.c (.g (.fn 22))) [(.t 66)]⟩,
     ⟨(some 68), (some (65, false)), .un .not (.t 67)⟩,
     ⟨(some 69), none, .pick (.t 65) (.c (.g (.bool true))) (.t 68)⟩]) <|
  .cond [2, 3, 4, 7, 8, 9, 10, 11, 12, 13, 14] (.t 69)
   (.seq (.reg [6] [⟨(some 6), none, .mov (.c (.g (.bool false)))⟩]) <|
    .ret)
   (.skip)) <|
 .seq (.seq (.reg [2, 3, 4, 7, 8, 9, 12, 13, 14, 105] [⟨(some 70), none, .mov (.t 9)⟩,
     ⟨(some 71), none, .bin .neq (.t 70) (.c (.g (.int .i64 0)))⟩,
     ⟨(some 72), none, .mov (.t 71)⟩,
     ⟨(some 73), (some (72, true)), .load true 2 (.t 7)⟩,
     ⟨(some 74), (some (72, true)), .load true 2 (.t 3)⟩,
     ⟨(some 75), (some (72, true)), .call (.c (.g (.fn 21))) [(.t 73), (.t 74)]⟩,
     ⟨(some 76), (some (72, true)), .un .not (.t 75)⟩,
     ⟨(some 77), (some (72, true)), .mov (.t 76)⟩,
     ⟨(some 78), (some (77, false)), .mov (.t 8)⟩,
     ⟨(some 79), (some (77, false)), .bin .neq (.t 78) (.c (.g (.int .i64 0)))⟩,
     ⟨(some 80), (some (72, true)), .pick (.t 77) (.c (.g (.bool true))) (.t 79)⟩,
     ⟨(some 81), none, .pick (.t 72) (.t 80) (.c (.g (.bool false)))⟩,
     ⟨(some 82), none, .mov (.t 81)⟩,
     ⟨(some 83), (some (82, false)), .mov (.t 12)⟩,
     ⟨(some 84), (some (82, false)), .bin .neq (.t 83) (.c (.g (.int .i64 0)))⟩,
     ⟨(some 85), (some (82, false)), .mov (.t 84)⟩,
     ⟨(some 86), (some (85, true)), .load true 2 (.t 10)⟩,
     ⟨(some 87), (some (85, true)), .load true 2 (.t 3)⟩,
     ⟨(some 88), (some (85, true)), .call (.c (.g (.fn 21))) [(.t 86), (.t 87)]⟩,
     ⟨(some 89), (some (85, true)), .un .not (.t 88)⟩,
     ⟨(some 90), (some (85, true)), .mov (.t 89)⟩,
     ⟨(some 91), (some (90, false)), .mov (.t 11)⟩,
     ⟨(some 92), (some (90, false)), .bin .neq (.t 91) (.c (.g (.int .i64 0)))⟩,
     ⟨(some 93), (some (85, true)), .pick (.t 90) (.c (.g (.bool true))) (.t 92)⟩,
     ⟨(some 94), (some (82, false)), .pick (.t 85) (.t 93) (.c (.g (.bool false)))⟩,
     ⟨(some 95), none, .pick (.t 82) (.c (.g (.bool true))) (.t 94)⟩,
     ⟨(some 96), none, .mov (.t 95)⟩,
     ⟨(some 97), (some (96, false)), .mov (.t 14)⟩,
     ⟨(some 98), (some (96, false)), .bin .neq (.t 97) (.c (.g (.int .i64 0)))⟩,
     ⟨(some 99), (some (96, false)), .mov (.t 98)⟩,
     ⟨(some 100), (some (99, true)), .load true 2 (.t 13)⟩,
     ⟨(some 101), (some (99, true)), .load true 2 (.t 3)⟩,
     ⟨(some 102), (some (99, true)), .call (.c (.g (.fn 21))) [(.t 100), (.t 101)]⟩,
     ⟨(some 103), (some (99, true)), .un .not (.t 102)⟩,
     ⟨(some 104), (some (96, false)), .pick (.t 99) (.t 103) (.c (.g (.bool false)))⟩,
     ⟨(some 105), none, .pick (.t 96) (.c (.g (.bool true))) (.t 104)⟩]) <|
  .cond [2, 3, 4, 7, 8, 9, 12, 13, 14] (.t 105)
   (.seq (.reg [6] [⟨(some 6), none, .mov (.c (.g (.bool false)))⟩]) <|
    .ret)
   (.skip)) <|
 .seq (.reg [2, 3, 4, 7, 8, 9, 12, 13, 14, 15] [⟨(some 106), none, .load true 2 (.t 3)⟩,
    ⟨(some 107), none, .iaddrA 2 1 (.t 4) (.c (.g (.int .i64 1)))⟩,
    ⟨(some 108), none, .load false 1 (.t 107)⟩,
    ⟨(some 109), none, .call (.c (.g (.fn 24))) [(.t 106), (.t 108)]⟩,
    ⟨(some 15), none, .mov (.t 109)⟩]) <|
 .seq (.reg [6] [⟨(some 110), none, .mov (.t 9)⟩,
    ⟨(some 111), none, .bin .neq (.t 110) (.c (.g (.int .i64 0)))⟩,
    ⟨(some 112), none, .mov (.t 111)⟩,
    ⟨(some 113), (some (112, false)), .mov (.t 8)⟩,
    ⟨(some 114), (some (112, false)), .faddr 0 (.t 3)⟩,
    ⟨(some 115), (some (112, false)), .load false 1 (.t 114)⟩,
    ⟨(some 116), (some (112, false)), .bin .add (.t 115) (.c (.g (.int .i64 1)))⟩,
    ⟨(some 117), (some (112, false)), .bin .eql (.t 113) (.t 116)⟩,
    ⟨(some 118), (some (112, false)), .mov (.t 117)⟩,
    ⟨(some 119), (some (118, true)), .load true 2 (.t 7)⟩,
    ⟨(some 120), (some (118, true)), .mov (.t 8)⟩,
    ⟨(some 121), (some (118, true)), .call (.c (.g (.fn 24))) [(.t 119), (.t 120)]⟩,
    ⟨(some 122), (some (112, false)), .pick (.t 118) (.t 121) (.c (.g (.bool false)))⟩,
    ⟨(some 123), (some (112, false)), .mov (.t 122)⟩,
    ⟨(some 124), (some (123, true)), .load true 2 (.t 3)⟩,
    ⟨(some 125), (some (123, true)), .mov (.t 8)⟩,
    ⟨(some 126), (some (123, true)), .call (.c (.g (.fn 24))) [(.t 124), (.t 125)]⟩,
    ⟨(some 127), (some (123, true)), .un .not (.t 126)⟩,
    ⟨(some 128), (some (112, false)), .pick (.t 123) (.t 127) (.c (.g (.bool false)))⟩,
    ⟨(some 129), (some (112, false)), .mov (.t 128)⟩,
    ⟨(some 130), (some (129, true)), .faddr 1 (.t 7)⟩,
    ⟨(some 131), (some (129, true)), .load false 1 (.t 130)⟩,
    ⟨(some 132), (some (129, true)), .len (.t 131)⟩,
    ⟨(some 133), (some (129, true)), .faddr 1 (.t 3)⟩,
    ⟨(some 134), (some (129, true)), .load false 1 (.t 133)⟩,
    ⟨(some 135), (some (129, true)), .len (.t 134)⟩,
    ⟨(some 136), (some (129, true)), .bin .add (.t 135) (.c (.g (.int .i64 1)))⟩,
    ⟨(some 137), (some (129, true)), .bin .eql (.t 132) (.t 136)⟩,
    ⟨(some 138), (some (112, false)), .pick (.t 129) (.t 137) (.c (.g (.bool false)))⟩,
    ⟨(some 139), none, .pick (.t 112) (.c (.g (.bool true))) (.t 138)⟩,
    ⟨(some 140), none, .mov (.t 139)⟩,
    ⟨(some 141), (some (140, true)), .mov (.t 14)⟩,
    ⟨(some 142), (some (140, true)), .bin .eql (.t 141) (.c (.g (.int .i64 0)))⟩,
    ⟨(some 143), (some (140, true)), .mov (.t 15)⟩,
    ⟨(some 144), (some (140, true)), .eqs false false [.b] (.t 142) (.t 143)⟩,
    ⟨(some 145), none, .pick (.t 140) (.t 144) (.c (.g (.bool false)))⟩,
    ⟨(some 146), none, .mov (.t 145)⟩,
    ⟨(some 147), (some (146, true)), .mov (.t 12)⟩,
    ⟨(some 148), (some (146, true)), .bin .eql (.t 147) (.c (.g (.int .i64 0)))⟩,
    ⟨(some 149), (some (146, true)), .mov (.t 15)⟩,
    ⟨(some 150), (some (146, true)), .mov (.t 149)⟩,
    ⟨(some 151), (some (150, true)), .mov (.t 2)⟩,
    ⟨(some 152), (some (150, true)), .bin .geq (.t 151) (.c (.g (.int .i64 0)))⟩,
    ⟨(some 153), (some (146, true)), .pick (.t 150) (.t 152) (.c (.g (.bool false)))⟩,
    ⟨(some 154), (some (146, true)), .mov (.t 153)⟩,
    ⟨(some 155), (some (154, true)), .mov (.t 2)⟩,
    ⟨(some 156), (some (154, true)), .bin .leq (.t 155) (.c (.g (.int .i64 1099511627775)))⟩,
    ⟨(some 157), (some (146, true)), .pick (.t 154) (.t 156) (.c (.g (.bool false)))⟩,
    ⟨(some 158), (some (146, true)), .eqs false false [.b] (.t 148) (.t 157)⟩,
    ⟨(some 159), none, .pick (.t 146) (.t 158) (.c (.g (.bool false)))⟩,
    ⟨(some 160), none, .mov (.t 159)⟩,
    ⟨(some 161), (some (160, true)), .load true 2 (.t 13)⟩,
    ⟨(some 162), (some (160, true)), .iaddrA 2 1 (.t 4) (.c (.g (.int .i64 1)))⟩,
    ⟨(some 163), (some (160, true)), .load false 1 (.t 162)⟩,
    ⟨(some 164), (some (160, true)), .call (.c (.g (.fn 24))) [(.t 161), (.t 163)]⟩,
    ⟨(some 165), (some (160, true)), .un .not (.t 164)⟩,
    ⟨(some 166), none, .pick (.t 160) (.t 165) (.c (.g (.bool false)))⟩,
    ⟨(some 167), none, .mov (.t 166)⟩,
    ⟨(some 168), (some (167, true)), .call (.c (.g (.fn 16))) []⟩,
    ⟨(some 169), none, .pick (.t 167) (.t 168) (.c (.g (.bool false)))⟩,
    ⟨(some 6), none, .mov (.t 169)⟩]) <|
 .ret⟩
def h5 : List (List Nat) := [[2, 3, 4], [2, 3, 4, 23], [2, 3, 4], [6], [], [2, 3, 4, 7, 8, 9], [2, 3, 4, 7, 8, 9, 10, 11, 12], [2, 3, 4, 7, 8, 9, 10, 11, 12, 13, 14], [2, 3, 4, 7, 8, 9, 10, 11, 12, 13, 14, 69], [2, 3, 4, 7, 8, 9, 10, 11, 12, 13, 14], [6], [2, 3, 4, 7, 8, 9, 12, 13, 14, 105], [2, 3, 4, 7, 8, 9, 12, 13, 14], [6], [2, 3, 4, 7, 8, 9, 12, 13, 14, 15], [6]]
theorem c5 : cFunc Try.prog 5 false h5 = some F5 := by kernel_rfl

/-- baton/batonlaw08.LeaseStays -/
def L6_0 : IC :=
 .seq (.seq (.reg [1, 2, 7, 8, 10, 11, 53] [⟨(some 50), none, .mov (.t 11)⟩,
     ⟨(some 51), none, .mov (.t 2)⟩,
     ⟨(some 52), none, .len (.t 51)⟩,
     ⟨(some 53), none, .bin .lss (.t 50) (.t 52)⟩]) <|
  .cond [1, 2, 7, 8, 10, 11] (.t 53)
   (.skip)
   (.exit 0)) <|
 .seq (.block [1, 2, 7, 8, 10, 11] 1 <|
  .seq (.drw [1, 2, 7, 8, 10, 11, 12, 13, 14] 1 <|
   .take ⟨(some 57), none, .load true 2 (.t 7)⟩ <|
   .take ⟨(some 58), none, .mov (.t 8)⟩ <|
   .take ⟨(some 59), none, .mov (.t 2)⟩ <|
   .take ⟨(some 60), none, .mov (.t 11)⟩ <|
   .take ⟨(some 61), none, .iaddr 1 (.t 59) (.t 60)⟩ <|
   .take ⟨(some 62), none, .load false 1 (.t 61)⟩ <|
   .alt ⟨(some 63), none, .call (.c (.g (.fn 19))) [(.t 57), (.t 58), (.t 62)]⟩
   (.take ⟨(some 56), none, .mov (.t 63)⟩ <|
    .take ⟨(some 64), none, .ext 0 (.t 56)⟩ <|
    .take ⟨(some 65), none, .ext 1 (.t 56)⟩ <|
    .take ⟨(some 66), none, .ext 2 (.t 56)⟩ <|
    .one ⟨(some 12), none, .allocAt 0 [.z (.int .i64 0), .s 3]⟩ <|
    .free <|
    .one ⟨none, none, .store 2 (.t 12) (.t 64)⟩ <|
    .take ⟨(some 13), none, .mov (.t 65)⟩ <|
    .take ⟨(some 14), none, .mov (.t 66)⟩ <|
    .leaf)
   (.one ⟨(some 12), none, .allocAt 0 [.z (.int .i64 0), .s 3]⟩ <|
    .one ⟨(some 63), none, .call (.c (.g (.fn 19))) [(.t 57), (.t 58), (.t 62)]⟩ <|
    .take ⟨(some 56), none, .mov (.t 63)⟩ <|
    .take ⟨(some 64), none, .ext 0 (.t 56)⟩ <|
    .take ⟨(some 65), none, .ext 1 (.t 56)⟩ <|
    .take ⟨(some 66), none, .ext 2 (.t 56)⟩ <|
    .free <|
    .one ⟨none, none, .store 2 (.t 12) (.t 64)⟩ <|
    .take ⟨(some 13), none, .mov (.t 65)⟩ <|
    .take ⟨(some 14), none, .mov (.t 66)⟩ <|
    .leaf)) <|
  .seq (.seq (.reg [1, 2, 7, 8, 10, 11, 12, 13, 14, 68] [⟨(some 67), none, .mov (.t 14)⟩,
      ⟨(some 68), none, .bin .neq (.t 67) (.c (.g (.int .i64 0)))⟩]) <|
   .cond [1, 2, 7, 8, 10, 11, 12, 13] (.t 68)
    (.seq (.reg [6] [⟨(some 69), none, .mov (.t 14)⟩,
        ⟨(some 70), none, .bin .eql (.t 69) (.c (.g (.int .i64 1)))⟩,
        ⟨(some 71), none, .mov (.t 70)⟩,
        ⟨(some 72), (some (71, true)), .call (.c (.g (.fn 16))) []⟩,
        ⟨(some 73), none, .pick (.t 71) (.t 72) (.c (.g (.bool false)))⟩,
        ⟨(some 6), none, .mov (.t 73)⟩]) <|
     .ret)
    (.skip)) <|
  .seq (.seq (.reg [1, 2, 7, 8, 10, 11, 12, 76] [⟨(some 74), none, .mov (.t 13)⟩,
      ⟨(some 75), none, .mov (.t 1)⟩,
      ⟨(some 76), none, .bin .neq (.t 74) (.t 75)⟩]) <|
   .cond [1, 2, 7, 8, 10, 11, 12] (.t 76)
    (.seq (.reg [6] [⟨(some 6), none, .mov (.c (.g (.bool false)))⟩]) <|
     .ret)
    (.skip)) <|
  .seq (.reg [1, 2, 7, 8, 10, 11, 12] [⟨(some 77), none, .mov (.t 10)⟩,
     ⟨(some 78), none, .mov (.t 2)⟩,
     ⟨(some 79), none, .mov (.t 11)⟩,
     ⟨(some 80), none, .iaddr 1 (.t 78) (.t 79)⟩,
     ⟨(some 81), none, .load false 1 (.t 80)⟩,
     ⟨(some 82), none, .mx (.t 77) [(.t 81)]⟩,
     ⟨(some 10), none, .mov (.t 82)⟩]) <|
  .reg [1, 2, 7, 8, 10, 11] [⟨(some 83), none, .load true 2 (.t 12)⟩,
    ⟨none, none, .store 2 (.t 7) (.t 83)⟩]) <|
 .reg [1, 2, 7, 8, 10, 11] [⟨(some 54), none, .mov (.t 11)⟩,
   ⟨(some 55), none, .bin .add (.t 54) (.c (.g (.int .i64 1)))⟩,
   ⟨(some 11), none, .mov (.t 55)⟩]
def F6 : IFunc := ⟨3, 105, [.tmp 6], false,
 .seq (.reg [1, 2, 3] [⟨(some 3), none, .box (.t 0)⟩,
    ⟨(some 6), none, .mov (.c (.g (.bool false)))⟩]) <|
 .seq (.seq (.reg [1, 2, 3, 27] [⟨(some 15), none, .load true 2 (.t 3)⟩,
     ⟨(some 16), none, .call (.c (.g (.fn 23))) [(.t 15)]⟩,
     ⟨(some 17), none, .un .not (.t 16)⟩,
     ⟨(some 18), none, .mov (.t 17)⟩,
     ⟨(some 19), (some (18, false)), .mov (.t 2)⟩,
     ⟨(some 20), (some (18, false)), .len (.t 19)⟩,
     ⟨(some 21), (some (18, false)), .bin .gtr (.t 20) (.c (.g (.int .i64 20)))⟩,
     ⟨(some 22), none, .pick (.t 18) (.c (.g (.bool true))) (.t 21)⟩,
     ⟨(some 23), none, .mov (.t 22)⟩,
     ⟨(some 24), (some (23, false)), .mov (.t 2)⟩,
     ⟨(some 25), (some (23, false)), .len (.t 24)⟩,
     ⟨(some 26), (some (23, false)), .bin .eql (.t 25) (.c (.g (.int .i64 0)))⟩,
     ⟨(some 27), none, .pick (.t 23) (.c (.g (.bool true))) (.t 26)⟩]) <|
  .cond [1, 2, 3] (.t 27)
   (.seq (.reg [6] [⟨(some 28), none, .call (.c (.g (.fn 16))) []⟩,
       ⟨(some 6), none, .mov (.t 28)⟩]) <|
    .ret)
   (.skip)) <|
 .seq (.drw [1, 2, 3, 7, 8, 9] 1 <|
  .take ⟨(some 30), none, .load true 2 (.t 3)⟩ <|
  .take ⟨(some 31), none, .mov (.t 1)⟩ <|
  .take ⟨(some 32), none, .mov (.t 2)⟩ <|
  .take ⟨(some 33), none, .iaddr 1 (.t 32) (.c (.g (.int .i64 0)))⟩ <|
  .take ⟨(some 34), none, .load false 1 (.t 33)⟩ <|
  .alt ⟨(some 35), none, .call (.c (.g (.fn 17))) [(.t 30), (.t 31), (.t 34)]⟩
  (.take ⟨(some 29), none, .mov (.t 35)⟩ <|
   .take ⟨(some 36), none, .ext 0 (.t 29)⟩ <|
   .take ⟨(some 37), none, .ext 1 (.t 29)⟩ <|
   .take ⟨(some 38), none, .ext 2 (.t 29)⟩ <|
   .one ⟨(some 7), none, .allocAt 0 [.z (.int .i64 0), .s 3]⟩ <|
   .free <|
   .one ⟨none, none, .store 2 (.t 7) (.t 36)⟩ <|
   .take ⟨(some 8), none, .mov (.t 37)⟩ <|
   .take ⟨(some 9), none, .mov (.t 38)⟩ <|
   .leaf)
  (.one ⟨(some 7), none, .allocAt 0 [.z (.int .i64 0), .s 3]⟩ <|
   .one ⟨(some 35), none, .call (.c (.g (.fn 17))) [(.t 30), (.t 31), (.t 34)]⟩ <|
   .take ⟨(some 29), none, .mov (.t 35)⟩ <|
   .take ⟨(some 36), none, .ext 0 (.t 29)⟩ <|
   .take ⟨(some 37), none, .ext 1 (.t 29)⟩ <|
   .take ⟨(some 38), none, .ext 2 (.t 29)⟩ <|
   .free <|
   .one ⟨none, none, .store 2 (.t 7) (.t 36)⟩ <|
   .take ⟨(some 8), none, .mov (.t 37)⟩ <|
   .take ⟨(some 9), none, .mov (.t 38)⟩ <|
   .leaf)) <|
 .seq (.seq (.reg [1, 2, 3, 7, 8, 40] [⟨(some 39), none, .mov (.t 9)⟩,
     ⟨(some 40), none, .bin .neq (.t 39) (.c (.g (.int .i64 0)))⟩]) <|
  .cond [1, 2, 7, 8] (.t 40)
   (.seq (.reg [6] [⟨(some 41), none, .load true 2 (.t 7)⟩,
       ⟨(some 42), none, .load true 2 (.t 3)⟩,
       ⟨(some 43), none, .call (.c (.g (.fn 21))) [(.t 41), (.t 42)]⟩,
       ⟨(some 44), none, .mov (.t 43)⟩,
       ⟨(some 45), (some (44, true)), .call (.c (.g (.fn 16))) []⟩,
       ⟨(some 46), none, .pick (.t 44) (.t 45) (.c (.g (.bool false)))⟩,
       ⟨(some 6), none, .mov (.t 46)⟩]) <|
    .ret)
   (.skip)) <|
 .seq (.reg [1, 2, 7, 8, 10] [⟨(some 47), none, .mov (.t 2)⟩,
    ⟨(some 48), none, .iaddr 1 (.t 47) (.c (.g (.int .i64 0)))⟩,
    ⟨(some 49), none, .load false 1 (.t 48)⟩,
    ⟨(some 10), none, .mov (.t 49)⟩]) <|
 .seq (.seq (.reg [1, 2, 7, 8, 10, 11] [⟨(some 11), none, .mov (.c (.g (.int .i64 1)))⟩]) <|
  .block [1, 7, 8, 10] 0 <|
  .loop [1, 2, 7, 8, 10, 11] [] L6_0) <|
 .seq (.reg [6] [⟨(some 84), none, .load true 2 (.t 7)⟩,
    ⟨(some 85), none, .mov (.t 10)⟩,
    ⟨(some 86), none, .mov (.t 1)⟩,
    ⟨(some 87), none, .bin .add (.t 85) (.t 86)⟩,
    ⟨(some 88), none, .bin .sub (.t 87) (.c (.g (.int .i64 1)))⟩,
    ⟨(some 89), none, .call (.c (.g (.fn 30))) [(.t 84), (.t 88)]⟩,
    ⟨(some 90), none, .mov (.t 8)⟩,
    ⟨(some 91), none, .call (.c (.g (.fn 35))) [(.t 89), (.t 90)]⟩,
    ⟨(some 92), none, .un .not (.t 91)⟩,
    ⟨(some 93), none, .mov (.t 92)⟩,
    ⟨(some 94), (some (93, true)), .load true 2 (.t 7)⟩,
    ⟨(some 95), (some (93, true)), .mov (.t 10)⟩,
    ⟨(some 96), (some (93, true)), .mov (.t 1)⟩,
    ⟨(some 97), (some (93, true)), .bin .add (.t 95) (.t 96)⟩,
    ⟨(some 98), (some (93, true)), .call (.c (.g (.fn 30))) [(.t 94), (.t 97)]⟩,
    ⟨(some 99), (some (93, true)), .mov (.t 8)⟩,
    ⟨(some 100), (some (93, true)), .call (.c (.g (.fn 35))) [(.t 98), (.t 99)]⟩,
    ⟨(some 101), none, .pick (.t 93) (.t 100) (.c (.g (.bool false)))⟩,
    ⟨(some 102), none, .mov (.t 101)⟩,
    ⟨(some 103), (some (102, true)), .call (.c (.g (.fn 16))) []⟩,
    ⟨(some 104), none, .pick (.t 102) (.t 103) (.c (.g (.bool false)))⟩,
    ⟨(some 6), none, .mov (.t 104)⟩]) <|
 .ret⟩
def h6 : List (List Nat) := [[1, 2, 3], [1, 2, 3, 27], [1, 2, 3], [6], [1, 2, 3, 7, 8, 9], [], [1, 2, 3, 7, 8, 40], [1, 2, 7, 8], [6], [1, 2, 7, 8, 10], [1, 2, 7, 8, 10, 11], [1, 7, 8, 10], [1, 2, 7, 8, 10, 11], [1, 2, 7, 8, 10, 11, 53], [1, 2, 7, 8, 10, 11], [1, 2, 7, 8, 10, 11], [1, 2, 7, 8, 10, 11, 12, 13, 14], [], [1, 2, 7, 8, 10, 11, 12, 13, 14, 68], [1, 2, 7, 8, 10, 11, 12, 13], [6], [1, 2, 7, 8, 10, 11, 12, 76], [1, 2, 7, 8, 10, 11, 12], [6], [1, 2, 7, 8, 10, 11, 12], [1, 2, 7, 8, 10, 11], [1, 2, 7, 8, 10, 11], [6]]
theorem c6 : cFunc Try.prog 6 false h6 = some F6 := by kernel_rfl

/-- baton/batonlaw08.LeaseOnce -/
def L7_0 : IC :=
 .seq (.seq (.reg [1, 2, 3, 7, 8, 28] [⟨(some 25), none, .mov (.t 8)⟩,
     ⟨(some 26), none, .mov (.t 2)⟩,
     ⟨(some 27), none, .len (.t 26)⟩,
     ⟨(some 28), none, .bin .lss (.t 25) (.t 27)⟩]) <|
  .cond [1, 2, 3, 7, 8] (.t 28)
   (.skip)
   (.exit 0)) <|
 .seq (.block [1, 2, 3, 7, 8] 1 <|
  .seq (.reg [1, 2, 3, 7, 8, 9, 10, 11] [⟨(some 32), none, .load true 2 (.t 3)⟩,
     ⟨(some 33), none, .mov (.t 1)⟩,
     ⟨(some 34), none, .mov (.t 8)⟩,
     ⟨(some 35), none, .call (.c (.g (.fn 17))) [(.t 32), (.t 33), (.t 34)]⟩,
     ⟨(some 31), none, .mov (.t 35)⟩,
     ⟨(some 36), none, .ext 0 (.t 31)⟩,
     ⟨(some 37), none, .ext 1 (.t 31)⟩,
     ⟨(some 38), none, .ext 2 (.t 31)⟩,
     ⟨(some 9), none, .alloc [.z (.int .i64 0), .s 3]⟩,
     ⟨none, none, .store 2 (.t 9) (.t 36)⟩,
     ⟨(some 10), none, .mov (.t 37)⟩,
     ⟨(some 11), none, .mov (.t 38)⟩]) <|
  .seq (.seq (.reg [1, 2, 3, 7, 8, 9, 10, 11, 45] [⟨(some 39), none, .mov (.t 11)⟩,
      ⟨(some 40), none, .bin .eql (.t 39) (.c (.g (.int .i64 0)))⟩,
      ⟨(some 41), none, .mov (.t 40)⟩,
      ⟨(some 42), (some (41, true)), .mov (.t 10)⟩,
      ⟨(some 43), (some (41, true)), .mov (.t 7)⟩,
      ⟨(some 44), (some (41, true)), .bin .leq (.t 42) (.t 43)⟩,
      ⟨(some 45), none, .pick (.t 41) (.t 44) (.c (.g (.bool false)))⟩]) <|
   .cond [1, 2, 3, 7, 8, 9, 10, 11] (.t 45)
    (.seq (.reg [6] [⟨(some 6), none, .mov (.c (.g (.bool false)))⟩]) <|
     .ret)
    (.skip)) <|
  .seq (.seq (.reg [1, 2, 3, 7, 8, 9, 10, 47] [⟨(some 46), none, .mov (.t 11)⟩,
      ⟨(some 47), none, .bin .eql (.t 46) (.c (.g (.int .i64 0)))⟩]) <|
   .cond [1, 2, 3, 7, 8, 9] (.t 47)
    (.reg [1, 2, 3, 7, 8, 9] [⟨(some 48), none, .mov (.t 10)⟩,
       ⟨(some 7), none, .mov (.t 48)⟩])
    (.skip)) <|
  .seq (.drw [1, 2, 3, 7, 8, 12] 1 <|
   .take ⟨(some 50), none, .load true 2 (.t 9)⟩ <|
   .take ⟨(some 51), none, .mov (.t 2)⟩ <|
   .take ⟨(some 52), none, .mov (.t 8)⟩ <|
   .take ⟨(some 53), none, .iaddr 1 (.t 51) (.t 52)⟩ <|
   .take ⟨(some 54), none, .load false 1 (.t 53)⟩ <|
   .alt ⟨(some 55), none, .call (.c (.g (.fn 27))) [(.t 50), (.t 54)]⟩
   (.take ⟨(some 49), none, .mov (.t 55)⟩ <|
    .take ⟨(some 56), none, .ext 0 (.t 49)⟩ <|
    .take ⟨(some 57), none, .ext 1 (.t 49)⟩ <|
    .one ⟨(some 12), none, .allocAt 0 [.z (.int .i64 0), .s 3]⟩ <|
    .free <|
    .one ⟨none, none, .store 2 (.t 12) (.t 56)⟩ <|
    .take ⟨(some 13), none, .mov (.t 57)⟩ <|
    .leaf)
   (.one ⟨(some 12), none, .allocAt 0 [.z (.int .i64 0), .s 3]⟩ <|
    .one ⟨(some 55), none, .call (.c (.g (.fn 27))) [(.t 50), (.t 54)]⟩ <|
    .take ⟨(some 49), none, .mov (.t 55)⟩ <|
    .take ⟨(some 56), none, .ext 0 (.t 49)⟩ <|
    .take ⟨(some 57), none, .ext 1 (.t 49)⟩ <|
    .free <|
    .one ⟨none, none, .store 2 (.t 12) (.t 56)⟩ <|
    .take ⟨(some 13), none, .mov (.t 57)⟩ <|
    .leaf)) <|
  .reg [1, 2, 3, 7, 8] [⟨(some 58), none, .load true 2 (.t 12)⟩,
    ⟨none, none, .store 2 (.t 3) (.t 58)⟩]) <|
 .reg [1, 2, 3, 7, 8] [⟨(some 29), none, .mov (.t 8)⟩,
   ⟨(some 30), none, .bin .add (.t 29) (.c (.g (.int .i64 1)))⟩,
   ⟨(some 8), none, .mov (.t 30)⟩]
def F7 : IFunc := ⟨3, 66, [.tmp 6], false,
 .seq (.reg [1, 2, 3] [⟨(some 3), none, .box (.t 0)⟩,
    ⟨(some 6), none, .mov (.c (.g (.bool false)))⟩]) <|
 .seq (.seq (.reg [1, 2, 3, 21] [⟨(some 14), none, .load true 2 (.t 3)⟩,
     ⟨(some 15), none, .call (.c (.g (.fn 23))) [(.t 14)]⟩,
     ⟨(some 16), none, .un .not (.t 15)⟩,
     ⟨(some 17), none, .mov (.t 16)⟩,
     ⟨(some 18), (some (17, false)), .mov (.t 2)⟩,
     ⟨(some 19), (some (17, false)), .len (.t 18)⟩,
     ⟨(some 20), (some (17, false)), .bin .gtr (.t 19) (.c (.g (.int .i64 20)))⟩,
     ⟨(some 21), none, .pick (.t 17) (.c (.g (.bool true))) (.t 20)⟩]) <|
  .cond [1, 2, 3] (.t 21)
   (.seq (.reg [6] [⟨(some 22), none, .call (.c (.g (.fn 16))) []⟩,
       ⟨(some 6), none, .mov (.t 22)⟩]) <|
    .ret)
   (.skip)) <|
 .seq (.reg [1, 2, 3, 7] [⟨(some 23), none, .faddr 0 (.t 3)⟩,
    ⟨(some 24), none, .load false 1 (.t 23)⟩,
    ⟨(some 7), none, .mov (.t 24)⟩]) <|
 .seq (.seq (.reg [1, 2, 3, 7, 8] [⟨(some 8), none, .mov (.c (.g (.int .i64 0)))⟩]) <|
  .block [3, 7] 0 <|
  .loop [1, 2, 3, 7, 8] [] L7_0) <|
 .seq (.reg [6] [⟨(some 59), none, .faddr 0 (.t 3)⟩,
    ⟨(some 60), none, .load false 1 (.t 59)⟩,
    ⟨(some 61), none, .mov (.t 7)⟩,
    ⟨(some 62), none, .bin .eql (.t 60) (.t 61)⟩,
    ⟨(some 63), none, .mov (.t 62)⟩,
    ⟨(some 64), (some (63, true)), .call (.c (.g (.fn 16))) []⟩,
    ⟨(some 65), none, .pick (.t 63) (.t 64) (.c (.g (.bool false)))⟩,
    ⟨(some 6), none, .mov (.t 65)⟩]) <|
 .ret⟩
def h7 : List (List Nat) := [[1, 2, 3], [1, 2, 3, 21], [1, 2, 3], [6], [1, 2, 3, 7], [1, 2, 3, 7, 8], [3, 7], [1, 2, 3, 7, 8], [1, 2, 3, 7, 8, 28], [1, 2, 3, 7, 8], [1, 2, 3, 7, 8], [1, 2, 3, 7, 8, 9, 10, 11], [1, 2, 3, 7, 8, 9, 10, 11, 45], [1, 2, 3, 7, 8, 9, 10, 11], [6], [1, 2, 3, 7, 8, 9, 10, 47], [1, 2, 3, 7, 8, 9], [1, 2, 3, 7, 8, 9], [1, 2, 3, 7, 8, 12], [], [1, 2, 3, 7, 8], [1, 2, 3, 7, 8], [6]]
theorem c7 : cFunc Try.prog 7 false h7 = some F7 := by kernel_rfl

/-- baton/batonlaw08.LeaseDrops -/
def L8_0 : IC :=
 .seq (.seq (.reg [0, 1, 2, 7, 8, 9, 10, 11, 25] [⟨(some 22), none, .mov (.t 11)⟩,
     ⟨(some 23), none, .mov (.t 0)⟩,
     ⟨(some 24), none, .len (.t 23)⟩,
     ⟨(some 25), none, .bin .lss (.t 22) (.t 24)⟩]) <|
  .cond [0, 1, 2, 7, 8, 9, 10, 11] (.t 25)
   (.skip)
   (.exit 0)) <|
 .seq (.block [0, 1, 2, 7, 8, 9, 10, 11] 1 <|
  .seq (.seq (.reg [0, 1, 2, 7, 8, 9, 10, 11, 38] [⟨(some 28), none, .mov (.t 1)⟩,
      ⟨(some 29), none, .bin .neq (.t 28) (.c (.g (.int .i64 0)))⟩,
      ⟨(some 30), none, .mov (.t 29)⟩,
      ⟨(some 31), (some (30, true)), .mov (.t 0)⟩,
      ⟨(some 32), (some (30, true)), .mov (.t 11)⟩,
      ⟨(some 33), (some (30, true)), .iaddr 6 (.t 31) (.t 32)⟩,
      ⟨(some 34), (some (30, true)), .faddr 5 (.t 33)⟩,
      ⟨(some 35), (some (30, true)), .load false 1 (.t 34)⟩,
      ⟨(some 36), (some (30, true)), .mov (.t 1)⟩,
      ⟨(some 37), (some (30, true)), .bin .eql (.t 35) (.t 36)⟩,
      ⟨(some 38), none, .pick (.t 30) (.t 37) (.c (.g (.bool false)))⟩]) <|
   .cond [0, 1, 2, 7, 8, 9, 10, 11] (.t 38)
    (.seq (.seq (.drw [0, 1, 2, 7, 8, 9, 10, 11, 55] 0 <|
       .take ⟨(some 39), none, .mov (.t 9)⟩ <|
       .take ⟨(some 40), none, .mov (.t 7)⟩ <|
       .take ⟨(some 41), none, .len (.t 40)⟩ <|
       .take ⟨(some 42), none, .bin .geq (.t 39) (.t 41)⟩ <|
       .take ⟨(some 43), none, .mov (.t 42)⟩ <|
       .take ⟨(some 44), (some (43, false)), .mov (.t 7)⟩ <|
       .take ⟨(some 45), (some (43, false)), .mov (.t 9)⟩ <|
       .take ⟨(some 46), (some (43, false)), .iaddr 4 (.t 44) (.t 45)⟩ <|
       .take ⟨(some 47), (some (43, false)), .load true 4 (.t 46)⟩ <|
       .take ⟨(some 48), (some (43, false)), .mov (.t 0)⟩ <|
       .take ⟨(some 49), (some (43, false)), .mov (.t 11)⟩ <|
       .take ⟨(some 50), (some (43, false)), .iaddr 6 (.t 48) (.t 49)⟩ <|
       .take ⟨(some 51), (some (43, false)), .faddr 0 (.t 50)⟩ <|
       .take ⟨(some 52), (some (43, false)), .load false 1 (.t 51)⟩ <|
       .take ⟨(some 53), (some (43, false)), .build [.g (.bool false), .g (.str []), .g (.str []), .g (.int .i64 0)] [(0, 1, (.c (.g (.bool true)))), (1, 1, (.t 52))]⟩ <|
       .take ⟨(some 54), (some (43, false)), .eqs true true [.b, .s, .s, .i] (.t 47) (.t 53)⟩ <|
       .take ⟨(some 55), none, .pick (.t 43) (.c (.g (.bool true))) (.t 54)⟩ <|
       .leaf) <|
      .cond [0, 1, 2, 7, 8, 9, 10, 11] (.t 55)
       (.seq (.reg [6] [⟨(some 6), none, .mov (.c (.g (.bool false)))⟩]) <|
        .ret)
       (.skip)) <|
     .reg [0, 1, 2, 7, 8, 9, 10, 11] [⟨(some 56), none, .mov (.t 9)⟩,
       ⟨(some 57), none, .bin .add (.t 56) (.c (.g (.int .i64 1)))⟩,
       ⟨(some 9), none, .mov (.t 57)⟩])
    (.skip)) <|
  .seq (.reg [0, 1, 2, 7, 8, 9, 10, 11, 73] [⟨(some 58), none, .mov (.t 2)⟩,
     ⟨(some 59), none, .bin .neq (.t 58) (.c (.g (.int .i64 0)))⟩,
     ⟨(some 60), none, .mov (.t 59)⟩,
     ⟨(some 61), (some (60, true)), .mov (.t 2)⟩,
     ⟨(some 62), (some (60, true)), .mov (.t 1)⟩,
     ⟨(some 63), (some (60, true)), .bin .neq (.t 61) (.t 62)⟩,
     ⟨(some 64), none, .pick (.t 60) (.t 63) (.c (.g (.bool false)))⟩,
     ⟨(some 65), none, .mov (.t 64)⟩,
     ⟨(some 66), (some (65, true)), .mov (.t 0)⟩,
     ⟨(some 67), (some (65, true)), .mov (.t 11)⟩,
     ⟨(some 68), (some (65, true)), .iaddr 6 (.t 66) (.t 67)⟩,
     ⟨(some 69), (some (65, true)), .faddr 5 (.t 68)⟩,
     ⟨(some 70), (some (65, true)), .load false 1 (.t 69)⟩,
     ⟨(some 71), (some (65, true)), .mov (.t 2)⟩,
     ⟨(some 72), (some (65, true)), .bin .eql (.t 70) (.t 71)⟩,
     ⟨(some 73), none, .pick (.t 65) (.t 72) (.c (.g (.bool false)))⟩]) <|
  .cond [0, 1, 2, 7, 8, 9, 10, 11] (.t 73)
   (.seq (.seq (.drw [0, 1, 2, 7, 8, 9, 10, 11, 98] 0 <|
      .take ⟨(some 74), none, .mov (.t 10)⟩ <|
      .take ⟨(some 75), none, .mov (.t 8)⟩ <|
      .take ⟨(some 76), none, .len (.t 75)⟩ <|
      .take ⟨(some 77), none, .bin .geq (.t 74) (.t 76)⟩ <|
      .take ⟨(some 78), none, .mov (.t 77)⟩ <|
      .take ⟨(some 79), (some (78, false)), .mov (.t 8)⟩ <|
      .take ⟨(some 80), (some (78, false)), .mov (.t 10)⟩ <|
      .take ⟨(some 81), (some (78, false)), .iaddr 4 (.t 79) (.t 80)⟩ <|
      .take ⟨(some 82), (some (78, false)), .faddr 1 (.t 81)⟩ <|
      .take ⟨(some 83), (some (78, false)), .load false 1 (.t 82)⟩ <|
      .take ⟨(some 84), (some (78, false)), .mov (.t 0)⟩ <|
      .take ⟨(some 85), (some (78, false)), .mov (.t 11)⟩ <|
      .take ⟨(some 86), (some (78, false)), .iaddr 6 (.t 84) (.t 85)⟩ <|
      .take ⟨(some 87), (some (78, false)), .faddr 0 (.t 86)⟩ <|
      .take ⟨(some 88), (some (78, false)), .load false 1 (.t 87)⟩ <|
      .take ⟨(some 89), (some (78, false)), .bin .neq (.t 83) (.t 88)⟩ <|
      .take ⟨(some 90), none, .pick (.t 78) (.c (.g (.bool true))) (.t 89)⟩ <|
      .take ⟨(some 91), none, .mov (.t 90)⟩ <|
      .take ⟨(some 92), (some (91, false)), .mov (.t 8)⟩ <|
      .take ⟨(some 93), (some (91, false)), .mov (.t 10)⟩ <|
      .take ⟨(some 94), (some (91, false)), .iaddr 4 (.t 92) (.t 93)⟩ <|
      .take ⟨(some 95), (some (91, false)), .faddr 0 (.t 94)⟩ <|
      .take ⟨(some 96), (some (91, false)), .load false 1 (.t 95)⟩ <|
      .take ⟨(some 97), (some (91, false)), .un .not (.t 96)⟩ <|
      .take ⟨(some 98), none, .pick (.t 91) (.c (.g (.bool true))) (.t 97)⟩ <|
      .leaf) <|
     .cond [0, 1, 2, 7, 8, 9, 10, 11] (.t 98)
      (.seq (.reg [6] [⟨(some 6), none, .mov (.c (.g (.bool false)))⟩]) <|
       .ret)
      (.skip)) <|
    .reg [0, 1, 2, 7, 8, 9, 10, 11] [⟨(some 99), none, .mov (.t 10)⟩,
      ⟨(some 100), none, .bin .add (.t 99) (.c (.g (.int .i64 1)))⟩,
      ⟨(some 10), none, .mov (.t 100)⟩])
   (.skip)) <|
 .reg [0, 1, 2, 7, 8, 9, 10, 11] [⟨(some 26), none, .mov (.t 11)⟩,
   ⟨(some 27), none, .bin .add (.t 26) (.c (.g (.int .i64 1)))⟩,
   ⟨(some 11), none, .mov (.t 27)⟩]
def F8 : IFunc := ⟨3, 119, [.tmp 6], false,
 .seq (.reg [0, 1, 2] [⟨(some 6), none, .mov (.c (.g (.bool false)))⟩]) <|
 .seq (.seq (.reg [0, 1, 2, 14] [⟨(some 12), none, .mov (.t 0)⟩,
     ⟨(some 13), none, .call (.c (.g (.fn 26))) [(.t 12), (.c (.g (.int .i64 40)))]⟩,
     ⟨(some 14), none, .un .not (.t 13)⟩]) <|
  .cond [0, 1, 2] (.t 14)
   (.seq (.reg [6] [⟨(some 15), none, .call (.c (.g (.fn 16))) []⟩,
       ⟨(some 6), none, .mov (.t 15)⟩]) <|
    .ret)
   (.skip)) <|
 .seq (.reg [0, 1, 2, 7] [⟨(some 16), none, .mov (.t 0)⟩,
    ⟨(some 17), none, .mov (.t 1)⟩,
    ⟨(some 18), none, .call (.c (.g (.fn 33))) [(.t 16), (.t 17)]⟩,
    ⟨(some 7), none, .mov (.t 18)⟩]) <|
 .seq (.reg [0, 1, 2, 7, 8] [⟨(some 19), none, .mov (.t 0)⟩,
    ⟨(some 20), none, .mov (.t 2)⟩,
    ⟨(some 21), none, .call (.c (.g (.fn 33))) [(.t 19), (.t 20)]⟩,
    ⟨(some 8), none, .mov (.t 21)⟩]) <|
 .seq (.reg [0, 1, 2, 7, 8, 9] [⟨(some 9), none, .mov (.c (.g (.int .i64 0)))⟩]) <|
 .seq (.reg [0, 1, 2, 7, 8, 9, 10] [⟨(some 10), none, .mov (.c (.g (.int .i64 0)))⟩]) <|
 .seq (.seq (.reg [0, 1, 2, 7, 8, 9, 10, 11] [⟨(some 11), none, .mov (.c (.g (.int .i64 0)))⟩]) <|
  .block [1, 2, 7, 8, 9, 10] 0 <|
  .loop [0, 1, 2, 7, 8, 9, 10, 11] [] L8_0) <|
 .seq (.reg [6] [⟨(some 101), none, .mov (.t 9)⟩,
    ⟨(some 102), none, .mov (.t 7)⟩,
    ⟨(some 103), none, .len (.t 102)⟩,
    ⟨(some 104), none, .bin .eql (.t 101) (.t 103)⟩,
    ⟨(some 105), none, .mov (.t 104)⟩,
    ⟨(some 106), (some (105, true)), .mov (.t 10)⟩,
    ⟨(some 107), (some (105, true)), .mov (.t 8)⟩,
    ⟨(some 108), (some (105, true)), .len (.t 107)⟩,
    ⟨(some 109), (some (105, true)), .bin .eql (.t 106) (.t 108)⟩,
    ⟨(some 110), (some (105, true)), .mov (.t 109)⟩,
    ⟨(some 111), (some (110, false)), .mov (.t 1)⟩,
    ⟨(some 112), (some (110, false)), .mov (.t 2)⟩,
    ⟨(some 113), (some (110, false)), .bin .eql (.t 111) (.t 112)⟩,
    ⟨(some 114), (some (105, true)), .pick (.t 110) (.c (.g (.bool true))) (.t 113)⟩,
    ⟨(some 115), none, .pick (.t 105) (.t 114) (.c (.g (.bool false)))⟩,
    ⟨(some 116), none, .mov (.t 115)⟩,
    ⟨(some 117), (some (116, true)), .call (.c (.g (.fn 16))) []⟩,
    ⟨(some 118), none, .pick (.t 116) (.t 117) (.c (.g (.bool false)))⟩,
    ⟨(some 6), none, .mov (.t 118)⟩]) <|
 .ret⟩
def h8 : List (List Nat) := [[0, 1, 2], [0, 1, 2, 14], [0, 1, 2], [6], [0, 1, 2, 7], [0, 1, 2, 7, 8], [0, 1, 2, 7, 8, 9], [0, 1, 2, 7, 8, 9, 10], [0, 1, 2, 7, 8, 9, 10, 11], [1, 2, 7, 8, 9, 10], [0, 1, 2, 7, 8, 9, 10, 11], [0, 1, 2, 7, 8, 9, 10, 11, 25], [0, 1, 2, 7, 8, 9, 10, 11], [0, 1, 2, 7, 8, 9, 10, 11], [0, 1, 2, 7, 8, 9, 10, 11, 38], [0, 1, 2, 7, 8, 9, 10, 11], [0, 1, 2, 7, 8, 9, 10, 11, 55], [], [0, 1, 2, 7, 8, 9, 10, 11], [6], [0, 1, 2, 7, 8, 9, 10, 11], [0, 1, 2, 7, 8, 9, 10, 11, 73], [0, 1, 2, 7, 8, 9, 10, 11], [0, 1, 2, 7, 8, 9, 10, 11, 98], [], [0, 1, 2, 7, 8, 9, 10, 11], [6], [0, 1, 2, 7, 8, 9, 10, 11], [0, 1, 2, 7, 8, 9, 10, 11], [6]]
theorem c8 : cFunc Try.prog 8 false h8 = some F8 := by kernel_rfl

/-- baton/batonlaw13.CallTells -/
def F9 : IFunc := ⟨3, 50, [.tmp 6], false,
 .seq (.reg [1, 2, 3] [⟨(some 3), none, .box (.t 0)⟩,
    ⟨(some 6), none, .mov (.c (.g (.bool false)))⟩]) <|
 .seq (.seq (.reg [1, 2, 3, 14] [⟨(some 8), none, .load true 13 (.t 3)⟩,
     ⟨(some 9), none, .call (.c (.g (.fn 36))) [(.t 8)]⟩,
     ⟨(some 10), none, .un .not (.t 9)⟩,
     ⟨(some 11), none, .mov (.t 10)⟩,
     ⟨(some 12), (some (11, false)), .mov (.t 2)⟩,
     ⟨(some 13), (some (11, false)), .bin .gtr (.t 12) (.c (.g (.int .i64 2000)))⟩,
     ⟨(some 14), none, .pick (.t 11) (.c (.g (.bool true))) (.t 13)⟩]) <|
  .cond [1, 2, 3] (.t 14)
   (.seq (.reg [6] [⟨(some 15), none, .call (.c (.g (.fn 37))) []⟩,
       ⟨(some 6), none, .mov (.t 15)⟩]) <|
    .ret)
   (.skip)) <|
 .seq (.reg [1, 2, 3, 7] [⟨(some 16), none, .load true 13 (.t 3)⟩,
    ⟨(some 17), none, .mov (.t 1)⟩,
    ⟨(some 18), none, .call (.c (.g (.fn 38))) [(.t 16), (.t 17)]⟩,
    ⟨(some 7), none, .alloc [.z (.bool false), .z (.int .i64 0), .z (.int .i64 0), .z (.int .i64 0), .z (.bool false), .z (.str []), .z (.str []), .z (.int .i64 0), .z (.int .i64 0), .z (.int .i64 0), .z (.int .i64 0), .s 5, .s 4, .s 4, .z (.int .i64 0), .z (.int .i64 0), .z (.int .i64 0)]⟩,
    ⟨none, none, .store 17 (.t 7) (.t 18)⟩]) <|
 .seq (.drw [6] 0 <|
  .take ⟨(some 19), none, .load true 17 (.t 7)⟩ <|
  .take ⟨(some 20), none, .load true 13 (.t 3)⟩ <|
  .take ⟨(some 21), none, .mov (.t 1)⟩ <|
  .one ⟨(some 22), none, .call (.c (.g (.fn 40))) [(.t 20), (.t 21)]⟩ <|
  .one ⟨(some 23), none, .call (.c (.g (.fn 39))) [(.t 19), (.t 22)]⟩ <|
  .take ⟨(some 24), none, .mov (.t 23)⟩ <|
  .take ⟨(some 26), (some (24, true)), .mov (.t 2)⟩ <|
  .take ⟨(some 29), (some (24, true)), .mov (.t 2)⟩ <|
  .alt ⟨(some 25), (some (24, true)), .load true 17 (.t 7)⟩
  (.alt ⟨(some 27), (some (24, true)), .call (.c (.g (.fn 41))) [(.t 25), (.t 26)]⟩
   (.one ⟨(some 28), (some (24, true)), .load true 17 (.t 7)⟩ <|
    .one ⟨(some 30), (some (24, true)), .call (.c (.g (.fn 42))) [(.t 28), (.t 29)]⟩ <|
    .take ⟨(some 31), (some (24, true)), .eqs false false [.b] (.t 27) (.t 30)⟩ <|
    .take ⟨(some 32), none, .pick (.t 24) (.t 31) (.c (.g (.bool false)))⟩ <|
    .take ⟨(some 33), none, .mov (.t 32)⟩ <|
    .take ⟨(some 34), (some (33, true)), .mov (.t 2)⟩ <|
    .take ⟨(some 36), (some (33, true)), .mov (.t 2)⟩ <|
    .one ⟨(some 35), (some (33, true)), .call (.c (.g (.fn 43))) [(.t 34)]⟩ <|
    .one ⟨(some 37), (some (33, true)), .call (.c (.g (.fn 44))) [(.t 36)]⟩ <|
    .take ⟨(some 38), (some (33, true)), .bin .eql (.t 35) (.t 37)⟩ <|
    .take ⟨(some 39), none, .pick (.t 33) (.t 38) (.c (.g (.bool false)))⟩ <|
    .take ⟨(some 40), none, .mov (.t 39)⟩ <|
    .take ⟨(some 41), (some (40, true)), .mov (.t 2)⟩ <|
    .take ⟨(some 43), (some (40, true)), .mov (.t 2)⟩ <|
    .one ⟨(some 42), (some (40, true)), .call (.c (.g (.fn 45))) [(.t 41)]⟩ <|
    .one ⟨(some 44), (some (40, true)), .call (.c (.g (.fn 46))) [(.t 43)]⟩ <|
    .take ⟨(some 45), (some (40, true)), .bin .eql (.t 42) (.t 44)⟩ <|
    .take ⟨(some 46), none, .pick (.t 40) (.t 45) (.c (.g (.bool false)))⟩ <|
    .take ⟨(some 47), none, .mov (.t 46)⟩ <|
    .one ⟨(some 48), (some (47, true)), .call (.c (.g (.fn 37))) []⟩ <|
    .take ⟨(some 49), none, .pick (.t 47) (.t 48) (.c (.g (.bool false)))⟩ <|
    .free <|
    .take ⟨(some 6), none, .mov (.t 49)⟩ <|
    .leaf)
   (.one ⟨(some 28), (some (24, true)), .load true 17 (.t 7)⟩ <|
    .one ⟨(some 27), (some (24, true)), .call (.c (.g (.fn 41))) [(.t 25), (.t 26)]⟩ <|
    .one ⟨(some 30), (some (24, true)), .call (.c (.g (.fn 42))) [(.t 28), (.t 29)]⟩ <|
    .take ⟨(some 31), (some (24, true)), .eqs false false [.b] (.t 27) (.t 30)⟩ <|
    .take ⟨(some 32), none, .pick (.t 24) (.t 31) (.c (.g (.bool false)))⟩ <|
    .take ⟨(some 33), none, .mov (.t 32)⟩ <|
    .take ⟨(some 34), (some (33, true)), .mov (.t 2)⟩ <|
    .take ⟨(some 36), (some (33, true)), .mov (.t 2)⟩ <|
    .one ⟨(some 35), (some (33, true)), .call (.c (.g (.fn 43))) [(.t 34)]⟩ <|
    .one ⟨(some 37), (some (33, true)), .call (.c (.g (.fn 44))) [(.t 36)]⟩ <|
    .take ⟨(some 38), (some (33, true)), .bin .eql (.t 35) (.t 37)⟩ <|
    .take ⟨(some 39), none, .pick (.t 33) (.t 38) (.c (.g (.bool false)))⟩ <|
    .take ⟨(some 40), none, .mov (.t 39)⟩ <|
    .take ⟨(some 41), (some (40, true)), .mov (.t 2)⟩ <|
    .take ⟨(some 43), (some (40, true)), .mov (.t 2)⟩ <|
    .one ⟨(some 42), (some (40, true)), .call (.c (.g (.fn 45))) [(.t 41)]⟩ <|
    .one ⟨(some 44), (some (40, true)), .call (.c (.g (.fn 46))) [(.t 43)]⟩ <|
    .take ⟨(some 45), (some (40, true)), .bin .eql (.t 42) (.t 44)⟩ <|
    .take ⟨(some 46), none, .pick (.t 40) (.t 45) (.c (.g (.bool false)))⟩ <|
    .take ⟨(some 47), none, .mov (.t 46)⟩ <|
    .one ⟨(some 48), (some (47, true)), .call (.c (.g (.fn 37))) []⟩ <|
    .take ⟨(some 49), none, .pick (.t 47) (.t 48) (.c (.g (.bool false)))⟩ <|
    .free <|
    .take ⟨(some 6), none, .mov (.t 49)⟩ <|
    .leaf))
  (.one ⟨(some 28), (some (24, true)), .load true 17 (.t 7)⟩ <|
   .one ⟨(some 25), (some (24, true)), .load true 17 (.t 7)⟩ <|
   .one ⟨(some 27), (some (24, true)), .call (.c (.g (.fn 41))) [(.t 25), (.t 26)]⟩ <|
   .one ⟨(some 30), (some (24, true)), .call (.c (.g (.fn 42))) [(.t 28), (.t 29)]⟩ <|
   .take ⟨(some 31), (some (24, true)), .eqs false false [.b] (.t 27) (.t 30)⟩ <|
   .take ⟨(some 32), none, .pick (.t 24) (.t 31) (.c (.g (.bool false)))⟩ <|
   .take ⟨(some 33), none, .mov (.t 32)⟩ <|
   .take ⟨(some 34), (some (33, true)), .mov (.t 2)⟩ <|
   .take ⟨(some 36), (some (33, true)), .mov (.t 2)⟩ <|
   .one ⟨(some 35), (some (33, true)), .call (.c (.g (.fn 43))) [(.t 34)]⟩ <|
   .one ⟨(some 37), (some (33, true)), .call (.c (.g (.fn 44))) [(.t 36)]⟩ <|
   .take ⟨(some 38), (some (33, true)), .bin .eql (.t 35) (.t 37)⟩ <|
   .take ⟨(some 39), none, .pick (.t 33) (.t 38) (.c (.g (.bool false)))⟩ <|
   .take ⟨(some 40), none, .mov (.t 39)⟩ <|
   .take ⟨(some 41), (some (40, true)), .mov (.t 2)⟩ <|
   .take ⟨(some 43), (some (40, true)), .mov (.t 2)⟩ <|
   .one ⟨(some 42), (some (40, true)), .call (.c (.g (.fn 45))) [(.t 41)]⟩ <|
   .one ⟨(some 44), (some (40, true)), .call (.c (.g (.fn 46))) [(.t 43)]⟩ <|
   .take ⟨(some 45), (some (40, true)), .bin .eql (.t 42) (.t 44)⟩ <|
   .take ⟨(some 46), none, .pick (.t 40) (.t 45) (.c (.g (.bool false)))⟩ <|
   .take ⟨(some 47), none, .mov (.t 46)⟩ <|
   .one ⟨(some 48), (some (47, true)), .call (.c (.g (.fn 37))) []⟩ <|
   .take ⟨(some 49), none, .pick (.t 47) (.t 48) (.c (.g (.bool false)))⟩ <|
   .free <|
   .take ⟨(some 6), none, .mov (.t 49)⟩ <|
   .leaf)) <|
 .ret⟩
def h9 : List (List Nat) := [[1, 2, 3], [1, 2, 3, 14], [1, 2, 3], [6], [1, 2, 3, 7], [6], []]
theorem c9 : cFunc Try.prog 9 false h9 = some F9 := by kernel_rfl

/-- baton/batonlaw13.CallSends -/
def F10 : IFunc := ⟨3, 100, [.tmp 6], false,
 .seq (.reg [1, 3, 5] [⟨(some 3), none, .box (.t 0)⟩,
    ⟨(some 5), none, .box (.t 2)⟩,
    ⟨(some 6), none, .mov (.c (.g (.bool false)))⟩]) <|
 .seq (.seq (.reg [1, 3, 5, 37] [⟨(some 17), none, .faddr 1 (.t 3)⟩,
     ⟨(some 18), none, .load true 13 (.t 17)⟩,
     ⟨(some 19), none, .call (.c (.g (.fn 36))) [(.t 18)]⟩,
     ⟨(some 20), none, .un .not (.t 19)⟩,
     ⟨(some 21), none, .mov (.t 20)⟩,
     ⟨(some 22), (some (21, false)), .faddr 16 (.t 3)⟩,
     ⟨(some 23), (some (21, false)), .load false 1 (.t 22)⟩,
     ⟨(some 24), (some (21, false)), .bin .gtr (.t 23) (.c (.g (.int .i64 1099511627775)))⟩,
     ⟨(some 25), none, .pick (.t 21) (.c (.g (.bool true))) (.t 24)⟩,
     ⟨(some 26), none, .mov (.t 25)⟩,
     ⟨(some 27), (some (26, false)), .faddr 7 (.t 5)⟩,
     ⟨(some 28), (some (26, false)), .load false 1 (.t 27)⟩,
     ⟨(some 29), (some (26, false)), .call (.c (.g (.fn 26))) [(.t 28), (.c (.g (.int .i64 40)))]⟩,
     ⟨(some 30), (some (26, false)), .un .not (.t 29)⟩,
     ⟨(some 31), none, .pick (.t 26) (.c (.g (.bool true))) (.t 30)⟩,
     ⟨(some 32), none, .mov (.t 31)⟩,
     ⟨(some 33), (some (32, false)), .faddr 8 (.t 5)⟩,
     ⟨(some 34), (some (32, false)), .load false 1 (.t 33)⟩,
     ⟨(some 35), (some (32, false)), .call (.c (.g (.fn 47))) [(.t 34), (.c (.g (.int .i64 40)))]⟩,
     ⟨(some 36), (some (32, false)), .un .not (.t 35)⟩,
     ⟨(some 37), none, .pick (.t 32) (.c (.g (.bool true))) (.t 36)⟩]) <|
  .cond [1, 3, 5] (.t 37)
   (.seq (.reg [6] [⟨(some 38), none, .call (.c (.g (.fn 37))) []⟩,
       ⟨(some 6), none, .mov (.t 38)⟩]) <|
    .ret)
   (.skip)) <|
 .seq (.reg [1, 3, 5, 7, 8, 9] [⟨(some 40), none, .load true 17 (.t 3)⟩,
    ⟨(some 41), none, .mov (.t 1)⟩,
    ⟨(some 42), none, .call (.c (.g (.fn 48))) [(.t 40), (.t 41)]⟩,
    ⟨(some 39), none, .mov (.t 42)⟩,
    ⟨(some 43), none, .ext 0 (.t 39)⟩,
    ⟨(some 44), none, .ext 1 (.t 39)⟩,
    ⟨(some 45), none, .ext 2 (.t 39)⟩,
    ⟨(some 7), none, .alloc [.z (.bool false), .z (.int .i64 0), .z (.int .i64 0), .z (.int .i64 0), .z (.bool false), .z (.str []), .z (.str []), .z (.int .i64 0), .z (.int .i64 0), .z (.int .i64 0), .z (.int .i64 0), .s 5, .s 4, .s 4, .z (.int .i64 0), .z (.int .i64 0), .z (.int .i64 0)]⟩,
    ⟨none, none, .store 17 (.t 7) (.t 43)⟩,
    ⟨(some 8), none, .mov (.t 44)⟩,
    ⟨(some 9), none, .mov (.t 45)⟩]) <|
 .seq (.reg [1, 3, 5, 7, 8, 9, 10, 11, 12] [⟨(some 47), none, .load true 17 (.t 3)⟩,
    ⟨(some 48), none, .mov (.t 1)⟩,
    ⟨(some 49), none, .call (.c (.g (.fn 49))) [(.t 47), (.t 48)]⟩,
    ⟨(some 46), none, .mov (.t 49)⟩,
    ⟨(some 50), none, .ext 0 (.t 46)⟩,
    ⟨(some 51), none, .ext 1 (.t 46)⟩,
    ⟨(some 52), none, .ext 2 (.t 46)⟩,
    ⟨(some 10), none, .alloc [.z (.bool false), .z (.int .i64 0), .z (.int .i64 0), .z (.int .i64 0), .z (.bool false), .z (.str []), .z (.str []), .z (.int .i64 0), .z (.int .i64 0), .z (.int .i64 0), .z (.int .i64 0), .s 5, .s 4, .s 4, .z (.int .i64 0), .z (.int .i64 0), .z (.int .i64 0)]⟩,
    ⟨none, none, .store 17 (.t 10) (.t 50)⟩,
    ⟨(some 11), none, .mov (.t 51)⟩,
    ⟨(some 12), none, .mov (.t 52)⟩]) <|
 .seq (.reg [1, 3, 5, 7, 8, 9, 10, 11, 12, 13, 14] [⟨(some 54), none, .load true 17 (.t 3)⟩,
    ⟨(some 55), none, .load true 9 (.t 5)⟩,
    ⟨(some 56), none, .call (.c (.g (.fn 50))) [(.t 54), (.t 55)]⟩,
    ⟨(some 53), none, .mov (.t 56)⟩,
    ⟨(some 57), none, .ext 0 (.t 53)⟩,
    ⟨(some 58), none, .ext 1 (.t 53)⟩,
    ⟨(some 13), none, .alloc [.z (.bool false), .z (.int .i64 0), .z (.int .i64 0), .z (.int .i64 0), .z (.bool false), .z (.str []), .z (.str []), .z (.int .i64 0), .z (.int .i64 0), .z (.int .i64 0), .z (.int .i64 0), .s 5, .s 4, .s 4, .z (.int .i64 0), .z (.int .i64 0), .z (.int .i64 0)]⟩,
    ⟨none, none, .store 17 (.t 13) (.t 57)⟩,
    ⟨(some 14), none, .mov (.t 58)⟩]) <|
 .seq (.reg [1, 3, 7, 8, 9, 10, 11, 12, 13, 14, 15, 16] [⟨(some 60), none, .load true 17 (.t 3)⟩,
    ⟨(some 61), none, .load true 9 (.t 5)⟩,
    ⟨(some 62), none, .call (.c (.g (.fn 51))) [(.t 60), (.t 61)]⟩,
    ⟨(some 59), none, .mov (.t 62)⟩,
    ⟨(some 63), none, .ext 0 (.t 59)⟩,
    ⟨(some 64), none, .ext 1 (.t 59)⟩,
    ⟨(some 15), none, .alloc [.z (.bool false), .z (.int .i64 0), .z (.int .i64 0), .z (.int .i64 0), .z (.bool false), .z (.str []), .z (.str []), .z (.int .i64 0), .z (.int .i64 0), .z (.int .i64 0), .z (.int .i64 0), .s 5, .s 4, .s 4, .z (.int .i64 0), .z (.int .i64 0), .z (.int .i64 0)]⟩,
    ⟨none, none, .store 17 (.t 15) (.t 63)⟩,
    ⟨(some 16), none, .mov (.t 64)⟩]) <|
 .seq (.drw [6] 0 <|
  .hold [3, 7, 10, 13, 15] <|
  .take ⟨(some 65), none, .load true 17 (.t 7)⟩ <|
  .take ⟨(some 66), none, .load true 17 (.t 10)⟩ <|
  .one ⟨(some 67), none, .call (.c (.g (.fn 39))) [(.t 65), (.t 66)]⟩ <|
  .take ⟨(some 68), none, .mov (.t 67)⟩ <|
  .take ⟨(some 69), (some (68, true)), .mov (.t 8)⟩ <|
  .take ⟨(some 70), (some (68, true)), .mov (.t 11)⟩ <|
  .take ⟨(some 71), (some (68, true)), .bin .eql (.t 69) (.t 70)⟩ <|
  .take ⟨(some 72), none, .pick (.t 68) (.t 71) (.c (.g (.bool false)))⟩ <|
  .take ⟨(some 73), none, .mov (.t 72)⟩ <|
  .take ⟨(some 74), (some (73, true)), .mov (.t 9)⟩ <|
  .take ⟨(some 75), (some (73, true)), .mov (.t 12)⟩ <|
  .take ⟨(some 76), (some (73, true)), .eqs false false [.b] (.t 74) (.t 75)⟩ <|
  .take ⟨(some 77), none, .pick (.t 73) (.t 76) (.c (.g (.bool false)))⟩ <|
  .take ⟨(some 78), none, .mov (.t 77)⟩ <|
  .take ⟨(some 79), (some (78, true)), .load true 17 (.t 13)⟩ <|
  .take ⟨(some 80), (some (78, true)), .load true 17 (.t 15)⟩ <|
  .one ⟨(some 81), (some (78, true)), .call (.c (.g (.fn 39))) [(.t 79), (.t 80)]⟩ <|
  .take ⟨(some 82), none, .pick (.t 78) (.t 81) (.c (.g (.bool false)))⟩ <|
  .take ⟨(some 83), none, .mov (.t 82)⟩ <|
  .take ⟨(some 84), (some (83, true)), .mov (.t 14)⟩ <|
  .take ⟨(some 85), (some (83, true)), .mov (.t 16)⟩ <|
  .take ⟨(some 86), (some (83, true)), .eqs false false [.b] (.t 84) (.t 85)⟩ <|
  .take ⟨(some 87), none, .pick (.t 83) (.t 86) (.c (.g (.bool false)))⟩ <|
  .take ⟨(some 88), none, .mov (.t 87)⟩ <|
  .take ⟨(some 89), (some (88, true)), .load true 17 (.t 3)⟩ <|
  .take ⟨(some 90), (some (88, true)), .mov (.t 1)⟩ <|
  .take ⟨(some 92), (some (88, true)), .load true 17 (.t 3)⟩ <|
  .take ⟨(some 93), (some (88, true)), .mov (.t 1)⟩ <|
  .one ⟨(some 91), (some (88, true)), .call (.c (.g (.fn 41))) [(.t 89), (.t 90)]⟩ <|
  .one ⟨(some 94), (some (88, true)), .call (.c (.g (.fn 42))) [(.t 92), (.t 93)]⟩ <|
  .take ⟨(some 95), (some (88, true)), .eqs false false [.b] (.t 91) (.t 94)⟩ <|
  .take ⟨(some 96), none, .pick (.t 88) (.t 95) (.c (.g (.bool false)))⟩ <|
  .take ⟨(some 97), none, .mov (.t 96)⟩ <|
  .one ⟨(some 98), (some (97, true)), .call (.c (.g (.fn 37))) []⟩ <|
  .take ⟨(some 99), none, .pick (.t 97) (.t 98) (.c (.g (.bool false)))⟩ <|
  .free <|
  .take ⟨(some 6), none, .mov (.t 99)⟩ <|
  .leaf) <|
 .ret⟩
def h10 : List (List Nat) := [[1, 3, 5], [1, 3, 5, 37], [1, 3, 5], [6], [1, 3, 5, 7, 8, 9], [1, 3, 5, 7, 8, 9, 10, 11, 12], [1, 3, 5, 7, 8, 9, 10, 11, 12, 13, 14], [1, 3, 7, 8, 9, 10, 11, 12, 13, 14, 15, 16], [6], [3, 7, 10, 13, 15]]
theorem c10 : cFunc Try.prog 10 false h10 = some F10 := by kernel_rfl

/-- baton/batonlaw13.CallRetries -/
def L11_0 : IC :=
 .seq (.seq (.reg [1, 2, 3, 7, 9, 10, 53] [⟨(some 51), none, .mov (.t 10)⟩,
     ⟨(some 52), none, .mov (.t 2)⟩,
     ⟨(some 53), none, .bin .lss (.t 51) (.t 52)⟩]) <|
  .cond [1, 2, 3, 7, 9, 10] (.t 53)
   (.skip)
   (.exit 0)) <|
 .seq (.block [1, 2, 3, 7, 9, 10] 1 <|
  .seq (.reg [1, 2, 3, 7, 9, 10, 11] [⟨(some 56), none, .mov (.t 1)⟩,
     ⟨(some 57), none, .mov (.t 10)⟩,
     ⟨(some 58), none, .call (.c (.g (.fn 45))) [(.t 57)]⟩,
     ⟨(some 59), none, .bin .add (.t 56) (.t 58)⟩,
     ⟨(some 11), none, .mov (.t 59)⟩]) <|
  .seq (.reg [1, 2, 3, 7, 9, 10, 11, 13, 14] [⟨(some 61), none, .load true 17 (.t 9)⟩,
     ⟨(some 62), none, .mov (.t 11)⟩,
     ⟨(some 63), none, .bin .sub (.t 62) (.c (.g (.int .i64 1)))⟩,
     ⟨(some 64), none, .call (.c (.g (.fn 48))) [(.t 61), (.t 63)]⟩,
     ⟨(some 60), none, .mov (.t 64)⟩,
     ⟨(some 65), none, .ext 0 (.t 60)⟩,
     ⟨(some 66), none, .ext 1 (.t 60)⟩,
     ⟨(some 67), none, .ext 2 (.t 60)⟩,
     ⟨(some 12), none, .alloc [.z (.bool false), .z (.int .i64 0), .z (.int .i64 0), .z (.int .i64 0), .z (.bool false), .z (.str []), .z (.str []), .z (.int .i64 0), .z (.int .i64 0), .z (.int .i64 0), .z (.int .i64 0), .s 5, .s 4, .s 4, .z (.int .i64 0), .z (.int .i64 0), .z (.int .i64 0)]⟩,
     ⟨none, none, .store 17 (.t 12) (.t 65)⟩,
     ⟨(some 13), none, .mov (.t 66)⟩,
     ⟨(some 14), none, .mov (.t 67)⟩]) <|
  .seq (.reg [1, 2, 3, 7, 9, 10, 11, 13, 14, 15, 16, 17] [⟨(some 69), none, .load true 17 (.t 9)⟩,
     ⟨(some 70), none, .mov (.t 11)⟩,
     ⟨(some 71), none, .call (.c (.g (.fn 48))) [(.t 69), (.t 70)]⟩,
     ⟨(some 68), none, .mov (.t 71)⟩,
     ⟨(some 72), none, .ext 0 (.t 68)⟩,
     ⟨(some 73), none, .ext 1 (.t 68)⟩,
     ⟨(some 74), none, .ext 2 (.t 68)⟩,
     ⟨(some 15), none, .alloc [.z (.bool false), .z (.int .i64 0), .z (.int .i64 0), .z (.int .i64 0), .z (.bool false), .z (.str []), .z (.str []), .z (.int .i64 0), .z (.int .i64 0), .z (.int .i64 0), .z (.int .i64 0), .s 5, .s 4, .s 4, .z (.int .i64 0), .z (.int .i64 0), .z (.int .i64 0)]⟩,
     ⟨none, none, .store 17 (.t 15) (.t 72)⟩,
     ⟨(some 16), none, .mov (.t 73)⟩,
     ⟨(some 17), none, .mov (.t 74)⟩]) <|
  .seq (.seq (.reg [1, 2, 3, 7, 9, 10, 15, 123] [⟨(some 75), none, .mov (.t 14)⟩,
      ⟨(some 76), none, .mov (.t 75)⟩,
      ⟨(some 77), (some (76, true)), .mov (.t 11)⟩,
      ⟨(some 78), (some (76, true)), .bin .gtr (.t 77) (.c (.g (.int .i64 0)))⟩,
      ⟨(some 79), none, .pick (.t 76) (.t 78) (.c (.g (.bool false)))⟩,
      ⟨(some 80), none, .mov (.t 79)⟩,
      ⟨(some 81), (some (80, false)), .mov (.t 13)⟩,
      ⟨(some 82), (some (80, false)), .bin .neq (.t 81) (.c (.g (.str [])))⟩,
      ⟨(some 83), none, .pick (.t 80) (.c (.g (.bool true))) (.t 82)⟩,
      ⟨(some 84), none, .mov (.t 83)⟩,
      ⟨(some 85), (some (84, false)), .mov (.t 17)⟩,
      ⟨(some 86), (some (84, false)), .un .not (.t 85)⟩,
      ⟨(some 87), none, .pick (.t 84) (.c (.g (.bool true))) (.t 86)⟩,
      ⟨(some 88), none, .mov (.t 87)⟩,
      ⟨(some 89), (some (88, false)), .mov (.t 16)⟩,
      ⟨(some 90), (some (88, false)), .mov (.t 7)⟩,
      ⟨(some 91), (some (88, false)), .bin .neq (.t 89) (.t 90)⟩,
      ⟨(some 92), none, .pick (.t 88) (.c (.g (.bool true))) (.t 91)⟩,
      ⟨(some 93), none, .mov (.t 92)⟩,
      ⟨(some 94), (some (93, false)), .faddr 16 (.t 15)⟩,
      ⟨(some 95), (some (93, false)), .load false 1 (.t 94)⟩,
      ⟨(some 96), (some (93, false)), .mov (.t 10)⟩,
      ⟨(some 97), (some (93, false)), .bin .add (.t 96) (.c (.g (.int .i64 1)))⟩,
      ⟨(some 98), (some (93, false)), .bin .neq (.t 95) (.t 97)⟩,
      ⟨(some 99), none, .pick (.t 93) (.c (.g (.bool true))) (.t 98)⟩,
      ⟨(some 100), none, .mov (.t 99)⟩,
      ⟨(some 101), (some (100, false)), .faddr 14 (.t 15)⟩,
      ⟨(some 102), (some (100, false)), .load false 1 (.t 101)⟩,
      ⟨(some 103), (some (100, false)), .mov (.t 1)⟩,
      ⟨(some 104), (some (100, false)), .bin .neq (.t 102) (.t 103)⟩,
      ⟨(some 105), none, .pick (.t 100) (.c (.g (.bool true))) (.t 104)⟩,
      ⟨(some 106), none, .mov (.t 105)⟩,
      ⟨(some 107), (some (106, false)), .faddr 1 (.t 15)⟩,
      ⟨(some 108), (some (106, false)), .load true 13 (.t 107)⟩,
      ⟨(some 109), (some (106, false)), .load true 13 (.t 3)⟩,
      ⟨(some 110), (some (106, false)), .call (.c (.g (.fn 54))) [(.t 108), (.t 109)]⟩,
      ⟨(some 111), (some (106, false)), .un .not (.t 110)⟩,
      ⟨(some 112), none, .pick (.t 106) (.c (.g (.bool true))) (.t 111)⟩,
      ⟨(some 113), none, .mov (.t 112)⟩,
      ⟨(some 114), (some (113, false)), .mov (.t 10)⟩,
      ⟨(some 115), (some (113, false)), .bin .add (.t 114) (.c (.g (.int .i64 1)))⟩,
      ⟨(some 116), (some (113, false)), .call (.c (.g (.fn 45))) [(.t 115)]⟩,
      ⟨(some 117), (some (113, false)), .mov (.t 10)⟩,
      ⟨(some 118), (some (113, false)), .call (.c (.g (.fn 45))) [(.t 117)]⟩,
      ⟨(some 119), (some (113, false)), .mov (.t 10)⟩,
      ⟨(some 120), (some (113, false)), .call (.c (.g (.fn 44))) [(.t 119)]⟩,
      ⟨(some 121), (some (113, false)), .bin .add (.t 118) (.t 120)⟩,
      ⟨(some 122), (some (113, false)), .bin .neq (.t 116) (.t 121)⟩,
      ⟨(some 123), none, .pick (.t 113) (.c (.g (.bool true))) (.t 122)⟩]) <|
   .cond [1, 2, 3, 7, 9, 10, 15] (.t 123)
    (.seq (.reg [6] [⟨(some 6), none, .mov (.c (.g (.bool false)))⟩]) <|
     .ret)
    (.skip)) <|
  .reg [1, 2, 3, 7, 9, 10] [⟨(some 124), none, .load true 17 (.t 15)⟩,
    ⟨none, none, .store 17 (.t 9) (.t 124)⟩]) <|
 .reg [1, 2, 3, 7, 9, 10] [⟨(some 54), none, .mov (.t 10)⟩,
   ⟨(some 55), none, .bin .add (.t 54) (.c (.g (.int .i64 1)))⟩,
   ⟨(some 10), none, .mov (.t 55)⟩]
def F11 : IFunc := ⟨3, 130, [.tmp 6], false,
 .seq (.reg [1, 2, 3] [⟨(some 3), none, .box (.t 0)⟩,
    ⟨(some 6), none, .mov (.c (.g (.bool false)))⟩]) <|
 .seq (.seq (.reg [1, 2, 3, 41] [⟨(some 18), none, .load true 13 (.t 3)⟩,
     ⟨(some 19), none, .call (.c (.g (.fn 36))) [(.t 18)]⟩,
     ⟨(some 20), none, .un .not (.t 19)⟩,
     ⟨(some 21), none, .mov (.t 20)⟩,
     ⟨(some 22), (some (21, false)), .load true 13 (.t 3)⟩,
     ⟨(some 23), (some (21, false)), .call (.c (.g (.fn 52))) [(.t 22)]⟩,
     ⟨(some 24), (some (21, false)), .un .not (.t 23)⟩,
     ⟨(some 25), none, .pick (.t 21) (.c (.g (.bool true))) (.t 24)⟩,
     ⟨(some 26), none, .mov (.t 25)⟩,
     ⟨(some 27), (some (26, false)), .mov (.t 1)⟩,
     ⟨(some 28), (some (26, false)), .bin .lss (.t 27) (.c (.g (.int .i64 0)))⟩,
     ⟨(some 29), none, .pick (.t 26) (.c (.g (.bool true))) (.t 28)⟩,
     ⟨(some 30), none, .mov (.t 29)⟩,
     ⟨(some 31), (some (30, false)), .mov (.t 1)⟩,
     ⟨(some 32), (some (30, false)), .bin .gtr (.t 31) (.c (.g (.int .i64 549755813888)))⟩,
     ⟨(some 33), none, .pick (.t 30) (.c (.g (.bool true))) (.t 32)⟩,
     ⟨(some 34), none, .mov (.t 33)⟩,
     ⟨(some 35), (some (34, false)), .mov (.t 2)⟩,
     ⟨(some 36), (some (34, false)), .bin .lss (.t 35) (.c (.g (.int .i64 0)))⟩,
     ⟨(some 37), none, .pick (.t 34) (.c (.g (.bool true))) (.t 36)⟩,
     ⟨(some 38), none, .mov (.t 37)⟩,
     ⟨(some 39), (some (38, false)), .mov (.t 2)⟩,
     ⟨(some 40), (some (38, false)), .bin .gtr (.t 39) (.c (.g (.int .i64 20)))⟩,
     ⟨(some 41), none, .pick (.t 38) (.c (.g (.bool true))) (.t 40)⟩]) <|
  .cond [1, 2, 3] (.t 41)
   (.seq (.reg [6] [⟨(some 42), none, .call (.c (.g (.fn 37))) []⟩,
       ⟨(some 6), none, .mov (.t 42)⟩]) <|
    .ret)
   (.skip)) <|
 .seq (.reg [1, 2, 3, 7] [⟨(some 44), none, .load true 13 (.t 3)⟩,
    ⟨(some 45), none, .call (.c (.g (.fn 53))) [(.t 44)]⟩,
    ⟨(some 43), none, .mov (.t 45)⟩,
    ⟨(some 46), none, .ext 0 (.t 43)⟩,
    ⟨(some 47), none, .ext 1 (.t 43)⟩,
    ⟨(some 7), none, .mov (.t 46)⟩,
    ⟨(some 8), none, .mov (.t 47)⟩]) <|
 .seq (.reg [1, 2, 3, 7, 9] [⟨(some 48), none, .load true 13 (.t 3)⟩,
    ⟨(some 49), none, .mov (.t 1)⟩,
    ⟨(some 50), none, .call (.c (.g (.fn 38))) [(.t 48), (.t 49)]⟩,
    ⟨(some 9), none, .alloc [.z (.bool false), .z (.int .i64 0), .z (.int .i64 0), .z (.int .i64 0), .z (.bool false), .z (.str []), .z (.str []), .z (.int .i64 0), .z (.int .i64 0), .z (.int .i64 0), .z (.int .i64 0), .s 5, .s 4, .s 4, .z (.int .i64 0), .z (.int .i64 0), .z (.int .i64 0)]⟩,
    ⟨none, none, .store 17 (.t 9) (.t 50)⟩]) <|
 .seq (.seq (.reg [1, 2, 3, 7, 9, 10] [⟨(some 10), none, .mov (.c (.g (.int .i64 0)))⟩]) <|
  .block [9] 0 <|
  .loop [1, 2, 3, 7, 9, 10] [] L11_0) <|
 .seq (.reg [6] [⟨(some 125), none, .faddr 0 (.t 9)⟩,
    ⟨(some 126), none, .load false 1 (.t 125)⟩,
    ⟨(some 127), none, .mov (.t 126)⟩,
    ⟨(some 128), (some (127, true)), .call (.c (.g (.fn 37))) []⟩,
    ⟨(some 129), none, .pick (.t 127) (.t 128) (.c (.g (.bool false)))⟩,
    ⟨(some 6), none, .mov (.t 129)⟩]) <|
 .ret⟩
def h11 : List (List Nat) := [[1, 2, 3], [1, 2, 3, 41], [1, 2, 3], [6], [1, 2, 3, 7], [1, 2, 3, 7, 9], [1, 2, 3, 7, 9, 10], [9], [1, 2, 3, 7, 9, 10], [1, 2, 3, 7, 9, 10, 53], [1, 2, 3, 7, 9, 10], [1, 2, 3, 7, 9, 10], [1, 2, 3, 7, 9, 10, 11], [1, 2, 3, 7, 9, 10, 11, 13, 14], [1, 2, 3, 7, 9, 10, 11, 13, 14, 15, 16, 17], [1, 2, 3, 7, 9, 10, 15, 123], [1, 2, 3, 7, 9, 10, 15], [6], [1, 2, 3, 7, 9, 10], [1, 2, 3, 7, 9, 10], [6]]
theorem c11 : cFunc Try.prog 11 false h11 = some F11 := by kernel_rfl

/-- baton/batonlaw13.CallTold -/
def F12 : IFunc := ⟨3, 123, [.tmp 6], false,
 .seq (.reg [1, 3, 5] [⟨(some 3), none, .box (.t 0)⟩,
    ⟨(some 5), none, .box (.t 2)⟩,
    ⟨(some 6), none, .mov (.c (.g (.bool false)))⟩]) <|
 .seq (.seq (.reg [1, 3, 5, 25] [⟨(some 17), none, .faddr 1 (.t 3)⟩,
     ⟨(some 18), none, .load true 13 (.t 17)⟩,
     ⟨(some 19), none, .call (.c (.g (.fn 36))) [(.t 18)]⟩,
     ⟨(some 20), none, .un .not (.t 19)⟩,
     ⟨(some 21), none, .mov (.t 20)⟩,
     ⟨(some 22), (some (21, false)), .faddr 16 (.t 3)⟩,
     ⟨(some 23), (some (21, false)), .load false 1 (.t 22)⟩,
     ⟨(some 24), (some (21, false)), .bin .gtr (.t 23) (.c (.g (.int .i64 1099511627775)))⟩,
     ⟨(some 25), none, .pick (.t 21) (.c (.g (.bool true))) (.t 24)⟩]) <|
  .cond [1, 3, 5] (.t 25)
   (.seq (.reg [6] [⟨(some 26), none, .call (.c (.g (.fn 37))) []⟩,
       ⟨(some 6), none, .mov (.t 26)⟩]) <|
    .ret)
   (.skip)) <|
 .seq (.reg [1, 3, 5, 7, 8] [⟨(some 28), none, .load true 17 (.t 3)⟩,
    ⟨(some 29), none, .load true 9 (.t 5)⟩,
    ⟨(some 30), none, .call (.c (.g (.fn 50))) [(.t 28), (.t 29)]⟩,
    ⟨(some 27), none, .mov (.t 30)⟩,
    ⟨(some 31), none, .ext 0 (.t 27)⟩,
    ⟨(some 32), none, .ext 1 (.t 27)⟩,
    ⟨(some 7), none, .alloc [.z (.bool false), .z (.int .i64 0), .z (.int .i64 0), .z (.int .i64 0), .z (.bool false), .z (.str []), .z (.str []), .z (.int .i64 0), .z (.int .i64 0), .z (.int .i64 0), .z (.int .i64 0), .s 5, .s 4, .s 4, .z (.int .i64 0), .z (.int .i64 0), .z (.int .i64 0)]⟩,
    ⟨none, none, .store 17 (.t 7) (.t 31)⟩,
    ⟨(some 8), none, .mov (.t 32)⟩]) <|
 .seq (.reg [1, 3, 5, 7, 8, 9] [⟨(some 33), none, .load true 9 (.t 5)⟩,
    ⟨(some 9), none, .alloc [.z (.int .i64 0), .z (.int .i64 0), .z (.int .i64 0), .z (.int .i64 0), .z (.int .i64 0), .z (.int .i64 0), .z (.bool false), .s 6, .s 8]⟩,
    ⟨none, none, .store 9 (.t 9) (.t 33)⟩]) <|
 .seq (.reg [1, 3, 5, 7, 8, 9] [⟨(some 34), none, .faddr 1 (.t 3)⟩,
    ⟨(some 35), none, .faddr 1 (.t 34)⟩,
    ⟨(some 36), none, .load false 1 (.t 35)⟩,
    ⟨(some 37), none, .faddr 1 (.t 9)⟩,
    ⟨none, none, .store 1 (.t 37) (.t 36)⟩]) <|
 .seq (.reg [1, 3, 5, 7, 8, 9] [⟨(some 38), none, .faddr 1 (.t 3)⟩,
    ⟨(some 39), none, .faddr 2 (.t 38)⟩,
    ⟨(some 40), none, .load false 1 (.t 39)⟩,
    ⟨(some 41), none, .faddr 2 (.t 9)⟩,
    ⟨none, none, .store 1 (.t 41) (.t 40)⟩]) <|
 .seq (.reg [1, 3, 5, 7, 8, 9, 10, 11] [⟨(some 43), none, .load true 17 (.t 3)⟩,
    ⟨(some 44), none, .load true 9 (.t 9)⟩,
    ⟨(some 45), none, .call (.c (.g (.fn 50))) [(.t 43), (.t 44)]⟩,
    ⟨(some 42), none, .mov (.t 45)⟩,
    ⟨(some 46), none, .ext 0 (.t 42)⟩,
    ⟨(some 47), none, .ext 1 (.t 42)⟩,
    ⟨(some 10), none, .alloc [.z (.bool false), .z (.int .i64 0), .z (.int .i64 0), .z (.int .i64 0), .z (.bool false), .z (.str []), .z (.str []), .z (.int .i64 0), .z (.int .i64 0), .z (.int .i64 0), .z (.int .i64 0), .s 5, .s 4, .s 4, .z (.int .i64 0), .z (.int .i64 0), .z (.int .i64 0)]⟩,
    ⟨none, none, .store 17 (.t 10) (.t 46)⟩,
    ⟨(some 11), none, .mov (.t 47)⟩]) <|
 .seq (.reg [3, 5, 7, 8, 9, 10, 11, 13, 14] [⟨(some 49), none, .load true 17 (.t 10)⟩,
    ⟨(some 50), none, .mov (.t 1)⟩,
    ⟨(some 51), none, .call (.c (.g (.fn 48))) [(.t 49), (.t 50)]⟩,
    ⟨(some 48), none, .mov (.t 51)⟩,
    ⟨(some 52), none, .ext 0 (.t 48)⟩,
    ⟨(some 53), none, .ext 1 (.t 48)⟩,
    ⟨(some 54), none, .ext 2 (.t 48)⟩,
    ⟨(some 12), none, .alloc [.z (.bool false), .z (.int .i64 0), .z (.int .i64 0), .z (.int .i64 0), .z (.bool false), .z (.str []), .z (.str []), .z (.int .i64 0), .z (.int .i64 0), .z (.int .i64 0), .z (.int .i64 0), .s 5, .s 4, .s 4, .z (.int .i64 0), .z (.int .i64 0), .z (.int .i64 0)]⟩,
    ⟨none, none, .store 17 (.t 12) (.t 52)⟩,
    ⟨(some 13), none, .mov (.t 53)⟩,
    ⟨(some 14), none, .mov (.t 54)⟩]) <|
 .seq (.reg [3, 5, 7, 8, 10, 11, 13, 14, 16] [⟨(some 56), none, .load true 17 (.t 10)⟩,
    ⟨(some 57), none, .load true 9 (.t 9)⟩,
    ⟨(some 58), none, .call (.c (.g (.fn 50))) [(.t 56), (.t 57)]⟩,
    ⟨(some 55), none, .mov (.t 58)⟩,
    ⟨(some 59), none, .ext 0 (.t 55)⟩,
    ⟨(some 60), none, .ext 1 (.t 55)⟩,
    ⟨(some 15), none, .alloc [.z (.bool false), .z (.int .i64 0), .z (.int .i64 0), .z (.int .i64 0), .z (.bool false), .z (.str []), .z (.str []), .z (.int .i64 0), .z (.int .i64 0), .z (.int .i64 0), .z (.int .i64 0), .s 5, .s 4, .s 4, .z (.int .i64 0), .z (.int .i64 0), .z (.int .i64 0)]⟩,
    ⟨none, none, .store 17 (.t 15) (.t 59)⟩,
    ⟨(some 16), none, .mov (.t 60)⟩]) <|
 .seq (.seq (.reg [3, 5, 7, 8, 91] [⟨(some 61), none, .mov (.t 11)⟩,
     ⟨(some 62), none, .faddr 0 (.t 3)⟩,
     ⟨(some 63), none, .load false 1 (.t 62)⟩,
     ⟨(some 64), none, .eqs true false [.b] (.t 61) (.t 63)⟩,
     ⟨(some 65), none, .mov (.t 64)⟩,
     ⟨(some 66), (some (65, false)), .mov (.t 11)⟩,
     ⟨(some 67), (some (65, false)), .mov (.t 66)⟩,
     ⟨(some 68), (some (67, true)), .faddr 0 (.t 10)⟩,
     ⟨(some 69), (some (67, true)), .load false 1 (.t 68)⟩,
     ⟨(some 70), (some (67, true)), .mov (.t 69)⟩,
     ⟨(some 71), (some (70, false)), .mov (.t 14)⟩,
     ⟨(some 72), (some (67, true)), .pick (.t 70) (.c (.g (.bool true))) (.t 71)⟩,
     ⟨(some 73), (some (67, true)), .mov (.t 72)⟩,
     ⟨(some 74), (some (73, false)), .mov (.t 13)⟩,
     ⟨(some 75), (some (73, false)), .bin .neq (.t 74) (.c (.g (.str [])))⟩,
     ⟨(some 76), (some (67, true)), .pick (.t 73) (.c (.g (.bool true))) (.t 75)⟩,
     ⟨(some 77), (some (67, true)), .mov (.t 76)⟩,
     ⟨(some 78), (some (77, false)), .mov (.t 16)⟩,
     ⟨(some 79), (some (67, true)), .pick (.t 77) (.c (.g (.bool true))) (.t 78)⟩,
     ⟨(some 80), (some (65, false)), .pick (.t 67) (.t 79) (.c (.g (.bool false)))⟩,
     ⟨(some 81), none, .pick (.t 65) (.c (.g (.bool true))) (.t 80)⟩,
     ⟨(some 82), none, .mov (.t 81)⟩,
     ⟨(some 83), (some (82, false)), .mov (.t 11)⟩,
     ⟨(some 84), (some (82, false)), .un .not (.t 83)⟩,
     ⟨(some 85), (some (82, false)), .mov (.t 84)⟩,
     ⟨(some 86), (some (85, true)), .load true 17 (.t 10)⟩,
     ⟨(some 87), (some (85, true)), .load true 17 (.t 3)⟩,
     ⟨(some 88), (some (85, true)), .call (.c (.g (.fn 39))) [(.t 86), (.t 87)]⟩,
     ⟨(some 89), (some (85, true)), .un .not (.t 88)⟩,
     ⟨(some 90), (some (82, false)), .pick (.t 85) (.t 89) (.c (.g (.bool false)))⟩,
     ⟨(some 91), none, .pick (.t 82) (.c (.g (.bool true))) (.t 90)⟩]) <|
  .cond [3, 5, 7, 8] (.t 91)
   (.seq (.reg [6] [⟨(some 6), none, .mov (.c (.g (.bool false)))⟩]) <|
    .ret)
   (.skip)) <|
 .seq (.reg [6] [⟨(some 92), none, .mov (.t 8)⟩,
    ⟨(some 93), none, .faddr 0 (.t 3)⟩,
    ⟨(some 94), none, .load false 1 (.t 93)⟩,
    ⟨(some 95), none, .mov (.t 94)⟩,
    ⟨(some 96), (some (95, true)), .faddr 1 (.t 5)⟩,
    ⟨(some 97), (some (95, true)), .load false 1 (.t 96)⟩,
    ⟨(some 98), (some (95, true)), .faddr 1 (.t 3)⟩,
    ⟨(some 99), (some (95, true)), .faddr 1 (.t 98)⟩,
    ⟨(some 100), (some (95, true)), .load false 1 (.t 99)⟩,
    ⟨(some 101), (some (95, true)), .bin .eql (.t 97) (.t 100)⟩,
    ⟨(some 102), none, .pick (.t 95) (.t 101) (.c (.g (.bool false)))⟩,
    ⟨(some 103), none, .mov (.t 102)⟩,
    ⟨(some 104), (some (103, true)), .faddr 2 (.t 5)⟩,
    ⟨(some 105), (some (103, true)), .load false 1 (.t 104)⟩,
    ⟨(some 106), (some (103, true)), .faddr 1 (.t 3)⟩,
    ⟨(some 107), (some (103, true)), .faddr 2 (.t 106)⟩,
    ⟨(some 108), (some (103, true)), .load false 1 (.t 107)⟩,
    ⟨(some 109), (some (103, true)), .bin .eql (.t 105) (.t 108)⟩,
    ⟨(some 110), none, .pick (.t 103) (.t 109) (.c (.g (.bool false)))⟩,
    ⟨(some 111), none, .eqs false false [.b] (.t 92) (.t 110)⟩,
    ⟨(some 112), none, .mov (.t 111)⟩,
    ⟨(some 113), (some (112, true)), .mov (.t 8)⟩,
    ⟨(some 114), (some (112, true)), .mov (.t 113)⟩,
    ⟨(some 115), (some (114, false)), .load true 17 (.t 7)⟩,
    ⟨(some 116), (some (114, false)), .load true 17 (.t 3)⟩,
    ⟨(some 117), (some (114, false)), .call (.c (.g (.fn 39))) [(.t 115), (.t 116)]⟩,
    ⟨(some 118), (some (112, true)), .pick (.t 114) (.c (.g (.bool true))) (.t 117)⟩,
    ⟨(some 119), none, .pick (.t 112) (.t 118) (.c (.g (.bool false)))⟩,
    ⟨(some 120), none, .mov (.t 119)⟩,
    ⟨(some 121), (some (120, true)), .call (.c (.g (.fn 37))) []⟩,
    ⟨(some 122), none, .pick (.t 120) (.t 121) (.c (.g (.bool false)))⟩,
    ⟨(some 6), none, .mov (.t 122)⟩]) <|
 .ret⟩
def h12 : List (List Nat) := [[1, 3, 5], [1, 3, 5, 25], [1, 3, 5], [6], [1, 3, 5, 7, 8], [1, 3, 5, 7, 8, 9], [1, 3, 5, 7, 8, 9], [1, 3, 5, 7, 8, 9], [1, 3, 5, 7, 8, 9, 10, 11], [3, 5, 7, 8, 9, 10, 11, 13, 14], [3, 5, 7, 8, 10, 11, 13, 14, 16], [3, 5, 7, 8, 91], [3, 5, 7, 8], [6], [6]]
theorem c12 : cFunc Try.prog 12 false h12 = some F12 := by kernel_rfl

/-- baton/batonlaw13.CallPauses -/
def L13_0 : IC :=
 .seq (.seq (.reg [0, 3, 4, 15] [⟨(some 13), none, .mov (.t 4)⟩,
     ⟨(some 14), none, .mov (.t 0)⟩,
     ⟨(some 15), none, .bin .lss (.t 13) (.t 14)⟩]) <|
  .cond [0, 3, 4] (.t 15)
   (.skip)
   (.exit 0)) <|
 .seq (.block [0, 3, 4] 1 <|
  .seq (.reg [0, 3, 4, 5] [⟨(some 18), none, .mov (.t 4)⟩,
     ⟨(some 19), none, .call (.c (.g (.fn 43))) [(.t 18)]⟩,
     ⟨(some 5), none, .mov (.t 19)⟩]) <|
  .seq (.seq (.reg [0, 3, 4, 5, 52] [⟨(some 20), none, .mov (.t 4)⟩,
      ⟨(some 21), none, .call (.c (.g (.fn 45))) [(.t 20)]⟩,
      ⟨(some 22), none, .mov (.t 3)⟩,
      ⟨(some 23), none, .bin .neq (.t 21) (.t 22)⟩,
      ⟨(some 24), none, .mov (.t 23)⟩,
      ⟨(some 25), (some (24, false)), .mov (.t 5)⟩,
      ⟨(some 26), (some (24, false)), .bin .lss (.t 25) (.c (.g (.int .i64 16)))⟩,
      ⟨(some 27), none, .pick (.t 24) (.c (.g (.bool true))) (.t 26)⟩,
      ⟨(some 28), none, .mov (.t 27)⟩,
      ⟨(some 29), (some (28, false)), .mov (.t 5)⟩,
      ⟨(some 30), (some (28, false)), .bin .gtr (.t 29) (.c (.g (.int .i64 256)))⟩,
      ⟨(some 31), none, .pick (.t 28) (.c (.g (.bool true))) (.t 30)⟩,
      ⟨(some 32), none, .mov (.t 31)⟩,
      ⟨(some 33), (some (32, false)), .mov (.t 4)⟩,
      ⟨(some 34), (some (32, false)), .bin .gtr (.t 33) (.c (.g (.int .i64 0)))⟩,
      ⟨(some 35), (some (32, false)), .mov (.t 34)⟩,
      ⟨(some 36), (some (35, true)), .mov (.t 5)⟩,
      ⟨(some 37), (some (35, true)), .mov (.t 4)⟩,
      ⟨(some 38), (some (35, true)), .bin .sub (.t 37) (.c (.g (.int .i64 1)))⟩,
      ⟨(some 39), (some (35, true)), .call (.c (.g (.fn 43))) [(.t 38)]⟩,
      ⟨(some 40), (some (35, true)), .bin .mul (.c (.g (.int .i64 2))) (.t 39)⟩,
      ⟨(some 41), (some (35, true)), .mn (.t 40) [(.c (.g (.int .i64 256)))]⟩,
      ⟨(some 42), (some (35, true)), .bin .neq (.t 36) (.t 41)⟩,
      ⟨(some 43), (some (32, false)), .pick (.t 35) (.t 42) (.c (.g (.bool false)))⟩,
      ⟨(some 44), none, .pick (.t 32) (.c (.g (.bool true))) (.t 43)⟩,
      ⟨(some 45), none, .mov (.t 44)⟩,
      ⟨(some 46), (some (45, false)), .mov (.t 4)⟩,
      ⟨(some 47), (some (45, false)), .bin .eql (.t 46) (.c (.g (.int .i64 0)))⟩,
      ⟨(some 48), (some (45, false)), .mov (.t 47)⟩,
      ⟨(some 49), (some (48, true)), .mov (.t 5)⟩,
      ⟨(some 50), (some (48, true)), .bin .neq (.t 49) (.c (.g (.int .i64 16)))⟩,
      ⟨(some 51), (some (45, false)), .pick (.t 48) (.t 50) (.c (.g (.bool false)))⟩,
      ⟨(some 52), none, .pick (.t 45) (.c (.g (.bool true))) (.t 51)⟩]) <|
   .cond [0, 3, 4, 5] (.t 52)
    (.seq (.reg [2] [⟨(some 2), none, .mov (.c (.g (.bool false)))⟩]) <|
     .ret)
    (.skip)) <|
  .reg [0, 3, 4] [⟨(some 53), none, .mov (.t 3)⟩,
    ⟨(some 54), none, .mov (.t 5)⟩,
    ⟨(some 55), none, .bin .add (.t 53) (.t 54)⟩,
    ⟨(some 3), none, .mov (.t 55)⟩]) <|
 .reg [0, 3, 4] [⟨(some 16), none, .mov (.t 4)⟩,
   ⟨(some 17), none, .bin .add (.t 16) (.c (.g (.int .i64 1)))⟩,
   ⟨(some 4), none, .mov (.t 17)⟩]
def F13 : IFunc := ⟨1, 63, [.tmp 2], false,
 .seq (.reg [0] [⟨(some 2), none, .mov (.c (.g (.bool false)))⟩]) <|
 .seq (.seq (.reg [0, 11] [⟨(some 6), none, .mov (.t 0)⟩,
     ⟨(some 7), none, .bin .lss (.t 6) (.c (.g (.int .i64 0)))⟩,
     ⟨(some 8), none, .mov (.t 7)⟩,
     ⟨(some 9), (some (8, false)), .mov (.t 0)⟩,
     ⟨(some 10), (some (8, false)), .bin .gtr (.t 9) (.c (.g (.int .i64 100)))⟩,
     ⟨(some 11), none, .pick (.t 8) (.c (.g (.bool true))) (.t 10)⟩]) <|
  .cond [0] (.t 11)
   (.seq (.reg [2] [⟨(some 12), none, .call (.c (.g (.fn 37))) []⟩,
       ⟨(some 2), none, .mov (.t 12)⟩]) <|
    .ret)
   (.skip)) <|
 .seq (.reg [0, 3] [⟨(some 3), none, .mov (.c (.g (.int .i64 0)))⟩]) <|
 .seq (.seq (.reg [0, 3, 4] [⟨(some 4), none, .mov (.c (.g (.int .i64 0)))⟩]) <|
  .block [0, 3] 0 <|
  .loop [0, 3, 4] [] L13_0) <|
 .seq (.reg [2] [⟨(some 56), none, .mov (.t 0)⟩,
    ⟨(some 57), none, .call (.c (.g (.fn 45))) [(.t 56)]⟩,
    ⟨(some 58), none, .mov (.t 3)⟩,
    ⟨(some 59), none, .bin .eql (.t 57) (.t 58)⟩,
    ⟨(some 60), none, .mov (.t 59)⟩,
    ⟨(some 61), (some (60, true)), .call (.c (.g (.fn 37))) []⟩,
    ⟨(some 62), none, .pick (.t 60) (.t 61) (.c (.g (.bool false)))⟩,
    ⟨(some 2), none, .mov (.t 62)⟩]) <|
 .ret⟩
def h13 : List (List Nat) := [[0], [0, 11], [0], [2], [0, 3], [0, 3, 4], [0, 3], [0, 3, 4], [0, 3, 4, 15], [0, 3, 4], [0, 3, 4], [0, 3, 4, 5], [0, 3, 4, 5, 52], [0, 3, 4, 5], [2], [0, 3, 4], [0, 3, 4], [2]]
theorem c13 : cFunc Try.prog 13 false h13 = some F13 := by kernel_rfl

/-- baton/batonlaw14.SessSafe -/
def L14_0 : IC :=
 .seq (.seq (.reg [2, 7, 8, 9, 10, 12, 13, 14, 15, 16, 17, 21, 22, 156] [⟨(some 153), none, .mov (.t 22)⟩,
     ⟨(some 154), none, .mov (.t 21)⟩,
     ⟨(some 155), none, .len (.t 154)⟩,
     ⟨(some 156), none, .bin .lss (.t 153) (.t 155)⟩]) <|
  .cond [2, 7, 8, 9, 10, 12, 13, 14, 15, 16, 17, 21, 22] (.t 156)
   (.skip)
   (.exit 3)) <|
 .seq (.block [2, 7, 8, 9, 10, 12, 13, 14, 15, 16, 17, 21, 22] 4 <|
  .seq (.drw [2, 7, 8, 9, 10, 12, 13, 14, 15, 16, 17, 21, 22, 23, 24] 1 <|
   .take ⟨(some 160), none, .load true 2 (.t 9)⟩ <|
   .take ⟨(some 161), none, .mov (.t 21)⟩ <|
   .take ⟨(some 162), none, .mov (.t 22)⟩ <|
   .take ⟨(some 163), none, .iaddr 1 (.t 161) (.t 162)⟩ <|
   .take ⟨(some 164), none, .load false 1 (.t 163)⟩ <|
   .alt ⟨(some 165), none, .call (.c (.g (.fn 27))) [(.t 160), (.t 164)]⟩
   (.take ⟨(some 159), none, .mov (.t 165)⟩ <|
    .take ⟨(some 166), none, .ext 0 (.t 159)⟩ <|
    .take ⟨(some 167), none, .ext 1 (.t 159)⟩ <|
    .one ⟨(some 23), none, .allocAt 0 [.z (.int .i64 0), .s 3]⟩ <|
    .free <|
    .one ⟨none, none, .store 2 (.t 23) (.t 166)⟩ <|
    .take ⟨(some 24), none, .mov (.t 167)⟩ <|
    .leaf)
   (.one ⟨(some 23), none, .allocAt 0 [.z (.int .i64 0), .s 3]⟩ <|
    .one ⟨(some 165), none, .call (.c (.g (.fn 27))) [(.t 160), (.t 164)]⟩ <|
    .take ⟨(some 159), none, .mov (.t 165)⟩ <|
    .take ⟨(some 166), none, .ext 0 (.t 159)⟩ <|
    .take ⟨(some 167), none, .ext 1 (.t 159)⟩ <|
    .free <|
    .one ⟨none, none, .store 2 (.t 23) (.t 166)⟩ <|
    .take ⟨(some 24), none, .mov (.t 167)⟩ <|
    .leaf)) <|
  .seq (.seq (.reg [2, 7, 8, 9, 10, 12, 13, 14, 15, 16, 17, 21, 22, 23, 169] [⟨(some 168), none, .mov (.t 24)⟩,
      ⟨(some 169), none, .bin .neq (.t 168) (.c (.g (.int .i64 0)))⟩]) <|
   .cond [2, 7, 8, 9, 10, 12, 13, 14, 15, 16, 17, 21, 22, 23] (.t 169)
    (.seq (.reg [6] [⟨(some 6), none, .mov (.c (.g (.bool false)))⟩]) <|
     .ret)
    (.skip)) <|
  .reg [2, 7, 8, 9, 10, 12, 13, 14, 15, 16, 17, 21, 22] [⟨(some 170), none, .load true 2 (.t 23)⟩,
    ⟨none, none, .store 2 (.t 9) (.t 170)⟩]) <|
 .reg [2, 7, 8, 9, 10, 12, 13, 14, 15, 16, 17, 21, 22] [⟨(some 157), none, .mov (.t 22)⟩,
   ⟨(some 158), none, .bin .add (.t 157) (.c (.g (.int .i64 1)))⟩,
   ⟨(some 22), none, .mov (.t 158)⟩]
def L14_1 : IC :=
 .seq (.seq (.reg [2, 7, 8, 9, 10, 12, 13, 14, 15, 16, 17, 79] [⟨(some 76), none, .mov (.t 17)⟩,
     ⟨(some 77), none, .mov (.t 2)⟩,
     ⟨(some 78), none, .len (.t 77)⟩,
     ⟨(some 79), none, .bin .lss (.t 76) (.t 78)⟩]) <|
  .cond [2, 7, 8, 9, 10, 12, 13, 14, 15, 16, 17] (.t 79)
   (.skip)
   (.exit 0)) <|
 .seq (.block [2, 7, 8, 9, 10, 12, 13, 14, 15, 16, 17] 1 <|
  .seq (.seq (.reg [2, 7, 8, 9, 10, 12, 13, 14, 15, 16, 17, 86] [⟨(some 82), none, .mov (.t 2)⟩,
      ⟨(some 83), none, .mov (.t 17)⟩,
      ⟨(some 84), none, .iaddr 3 (.t 82) (.t 83)⟩,
      ⟨(some 85), none, .iaddrA 3 1 (.t 84) (.c (.g (.int .i64 0)))⟩,
      ⟨(some 86), none, .load false 1 (.t 85)⟩]) <|
   .block [2, 7, 8, 9, 10, 12, 13, 14, 15, 16, 17] 2 <|
   .seq (.seq (.reg [2, 7, 8, 9, 10, 12, 13, 14, 15, 16, 17, 86, 87] [⟨(some 88), none, .bin .eql (.t 86) (.c (.g (.int .i64 0)))⟩,
       ⟨(some 87), none, .mov (.t 88)⟩]) <|
    .cond [2, 7, 8, 9, 10, 12, 13, 14, 15, 16, 17, 86, 87] (.t 87)
     (.skip)
     (.seq (.reg [2, 7, 8, 9, 10, 12, 13, 14, 15, 16, 17, 86, 87] [⟨(some 89), none, .bin .eql (.t 86) (.c (.g (.int .i64 1)))⟩,
         ⟨(some 87), none, .mov (.t 89)⟩]) <|
      .cond [2, 7, 8, 9, 10, 12, 13, 14, 15, 16, 17, 86, 87] (.t 87)
       (.skip)
       (.seq (.reg [2, 7, 8, 9, 10, 12, 13, 14, 15, 16, 17, 86, 87] [⟨(some 90), none, .bin .eql (.t 86) (.c (.g (.int .i64 2)))⟩,
           ⟨(some 87), none, .mov (.t 90)⟩]) <|
        .cond [2, 7, 8, 9, 10, 12, 13, 14, 15, 16, 17, 86, 87] (.t 87)
         (.skip)
         (.reg [2, 7, 8, 9, 10, 12, 13, 14, 15, 16, 17, 86, 87] [⟨(some 91), none, .bin .eql (.t 86) (.c (.g (.int .i64 3)))⟩,
            ⟨(some 87), none, .mov (.t 91)⟩])))) <|
   .cond [2, 7, 8, 9, 10, 12, 13, 14, 15, 16, 17] (.t 87)
    (.seq (.reg [2, 7, 8, 9, 10, 12, 13, 14, 15, 16, 17] [⟨(some 92), none, .mov (.t 7)⟩,
        ⟨(some 93), none, .mov (.t 2)⟩,
        ⟨(some 94), none, .mov (.t 17)⟩,
        ⟨(some 95), none, .iaddr 3 (.t 93) (.t 94)⟩,
        ⟨(some 96), none, .iaddrA 3 1 (.t 95) (.c (.g (.int .i64 1)))⟩,
        ⟨(some 97), none, .load false 1 (.t 96)⟩,
        ⟨(some 98), none, .call (.c (.g (.fn 57))) [(.t 97), (.c (.g (.bool true)))]⟩,
        ⟨(some 99), none, .bin .add (.t 92) (.t 98)⟩,
        ⟨(some 7), none, .mov (.t 99)⟩]) <|
     .reg [2, 7, 8, 9, 10, 12, 13, 14, 15, 16, 17] [⟨(some 100), none, .mov (.t 8)⟩,
       ⟨(some 101), none, .mov (.t 2)⟩,
       ⟨(some 102), none, .mov (.t 17)⟩,
       ⟨(some 103), none, .iaddr 3 (.t 101) (.t 102)⟩,
       ⟨(some 104), none, .iaddrA 3 1 (.t 103) (.c (.g (.int .i64 2)))⟩,
       ⟨(some 105), none, .load false 1 (.t 104)⟩,
       ⟨(some 106), none, .call (.c (.g (.fn 57))) [(.t 105), (.c (.g (.bool true)))]⟩,
       ⟨(some 107), none, .bin .add (.t 100) (.t 106)⟩,
       ⟨(some 8), none, .mov (.t 107)⟩])
    (.seq (.reg [2, 7, 8, 9, 10, 12, 13, 14, 15, 16, 17, 86, 108] [⟨(some 109), none, .bin .eql (.t 86) (.c (.g (.int .i64 4)))⟩,
        ⟨(some 108), none, .mov (.t 109)⟩]) <|
     .cond [2, 7, 8, 9, 10, 12, 13, 14, 15, 16, 17] (.t 108)
      (.seq (.reg [2, 7, 8, 9, 10, 12, 13, 14, 15, 16, 17, 111] [⟨(some 110), none, .mov (.t 14)⟩,
          ⟨(some 111), none, .bin .lss (.t 110) (.c (.g (.int .i64 0)))⟩]) <|
       .cond [2, 7, 8, 9, 10, 12, 13, 14, 15, 16, 17] (.t 111)
        (.seq (.reg [2, 7, 8, 9, 10, 12, 13, 14, 16, 17] [⟨(some 112), none, .mov (.t 7)⟩,
            ⟨(some 14), none, .mov (.t 112)⟩]) <|
         .reg [2, 7, 8, 9, 10, 12, 13, 14, 15, 16, 17] [⟨(some 15), none, .mov (.c (.g (.bool false)))⟩])
        (.skip))
      (.seq (.reg [2, 7, 8, 9, 10, 12, 13, 14, 15, 16, 17, 86, 113] [⟨(some 114), none, .bin .eql (.t 86) (.c (.g (.int .i64 5)))⟩,
          ⟨(some 113), none, .mov (.t 114)⟩]) <|
       .cond [2, 7, 8, 9, 10, 12, 13, 14, 15, 16, 17] (.t 113)
        (.seq (.reg [2, 7, 8, 9, 10, 12, 13, 14, 15, 16, 17, 116] [⟨(some 115), none, .mov (.t 14)⟩,
            ⟨(some 116), none, .bin .geq (.t 115) (.c (.g (.int .i64 0)))⟩]) <|
         .cond [2, 7, 8, 9, 10, 12, 13, 14, 15, 16, 17] (.t 116)
          (.seq (.reg [2, 7, 8, 9, 10, 12, 13, 14, 16, 17, 18, 19, 20] [⟨(some 118), none, .load true 2 (.t 9)⟩,
              ⟨(some 119), none, .mov (.t 10)⟩,
              ⟨(some 120), none, .mov (.t 8)⟩,
              ⟨(some 121), none, .call (.c (.g (.fn 19))) [(.t 118), (.t 119), (.t 120)]⟩,
              ⟨(some 117), none, .mov (.t 121)⟩,
              ⟨(some 122), none, .ext 0 (.t 117)⟩,
              ⟨(some 123), none, .ext 1 (.t 117)⟩,
              ⟨(some 124), none, .ext 2 (.t 117)⟩,
              ⟨(some 18), none, .alloc [.z (.int .i64 0), .s 3]⟩,
              ⟨none, none, .store 2 (.t 18) (.t 122)⟩,
              ⟨(some 19), none, .mov (.t 123)⟩,
              ⟨(some 20), none, .mov (.t 124)⟩]) <|
           .seq (.reg [2, 7, 8, 9, 10, 12, 13, 14, 16, 17, 19, 20] [⟨(some 125), none, .load true 2 (.t 18)⟩,
              ⟨none, none, .store 2 (.t 9) (.t 125)⟩]) <|
           .seq (.reg [2, 7, 8, 9, 10, 12, 13, 14, 16, 17] [⟨(some 126), none, .mov (.t 20)⟩,
              ⟨(some 127), none, .mov (.t 10)⟩,
              ⟨(some 128), none, .mov (.t 19)⟩,
              ⟨(some 129), none, .build [.g (.int .i64 0), .g (.int .i64 0), .g (.int .i64 0), .g (.int .i64 0), .g (.int .i64 0), .g (.int .i64 0), .g (.bool false), .g (.nsl), .g (.nsl)] [(0, 1, (.t 126)), (4, 1, (.t 127)), (5, 1, (.t 128))]⟩,
              ⟨none, none, .store 9 (.t 16) (.t 129)⟩]) <|
           .reg [2, 7, 8, 9, 10, 12, 13, 14, 15, 16, 17] [⟨(some 15), none, .mov (.c (.g (.bool true)))⟩])
          (.skip))
        (.seq (.reg [2, 7, 8, 9, 10, 12, 13, 14, 15, 16, 17, 86, 130] [⟨(some 131), none, .bin .eql (.t 86) (.c (.g (.int .i64 6)))⟩,
            ⟨(some 130), none, .mov (.t 131)⟩]) <|
         .cond [2, 7, 8, 9, 10, 12, 13, 14, 15, 16, 17] (.t 130)
          (.seq (.reg [2, 7, 8, 9, 10, 12, 13, 14, 15, 16, 17, 132] [⟨(some 132), none, .mov (.t 15)⟩]) <|
           .cond [2, 7, 8, 9, 10, 12, 13, 14, 15, 16, 17] (.t 132)
            (.seq (.reg [2, 7, 8, 9, 10, 12, 13, 16, 17] [⟨(some 133), none, .load true 4 (.t 12)⟩,
                ⟨(some 134), none, .mov (.t 14)⟩,
                ⟨(some 135), none, .load true 9 (.t 16)⟩,
                ⟨(some 136), none, .call (.c (.g (.fn 58))) [(.t 133), (.t 134), (.t 135)]⟩,
                ⟨none, none, .store 4 (.t 12) (.t 136)⟩]) <|
             .seq (.reg [2, 7, 8, 9, 10, 12, 13, 14, 16, 17] [⟨(some 14), none, .mov (.c (.g (.int .i64 (-1))))⟩]) <|
             .reg [2, 7, 8, 9, 10, 12, 13, 14, 15, 16, 17] [⟨(some 15), none, .mov (.c (.g (.bool false)))⟩])
            (.skip))
          (.seq (.reg [2, 7, 8, 9, 10, 12, 13, 14, 15, 16, 17, 137] [⟨(some 138), none, .bin .eql (.t 86) (.c (.g (.int .i64 7)))⟩,
              ⟨(some 137), none, .mov (.t 138)⟩]) <|
           .cond [2, 7, 8, 9, 10, 12, 13, 14, 15, 16, 17] (.t 137)
            (.seq (.reg [2, 7, 8, 9, 10, 12, 13, 14, 16, 17] [⟨(some 14), none, .mov (.c (.g (.int .i64 (-1))))⟩]) <|
             .reg [2, 7, 8, 9, 10, 12, 13, 14, 15, 16, 17] [⟨(some 15), none, .mov (.c (.g (.bool false)))⟩])
            (.skip)))))) <|
  .seq (.reg [2, 7, 8, 9, 10, 12, 13, 14, 15, 16, 17, 21] [⟨(some 139), none, .load true 2 (.t 9)⟩,
     ⟨(some 140), none, .mov (.t 8)⟩,
     ⟨(some 141), none, .call (.c (.g (.fn 30))) [(.t 139), (.t 140)]⟩,
     ⟨(some 21), none, .mov (.t 141)⟩]) <|
  .seq (.seq (.reg [2, 7, 8, 9, 10, 12, 13, 14, 15, 16, 17, 21, 152] [⟨(some 142), none, .mov (.t 13)⟩,
      ⟨(some 143), none, .mov (.t 142)⟩,
      ⟨(some 144), (some (143, true)), .load true 4 (.t 12)⟩,
      ⟨(some 145), (some (143, true)), .mov (.t 7)⟩,
      ⟨(some 146), (some (143, true)), .call (.c (.g (.fn 59))) [(.t 144), (.t 145)]⟩,
      ⟨(some 147), none, .pick (.t 143) (.t 146) (.c (.g (.bool false)))⟩,
      ⟨(some 148), none, .mov (.t 147)⟩,
      ⟨(some 149), (some (148, true)), .mov (.t 21)⟩,
      ⟨(some 150), (some (148, true)), .len (.t 149)⟩,
      ⟨(some 151), (some (148, true)), .bin .gtr (.t 150) (.c (.g (.int .i64 0)))⟩,
      ⟨(some 152), none, .pick (.t 148) (.t 151) (.c (.g (.bool false)))⟩]) <|
   .cond [2, 7, 8, 9, 10, 12, 13, 14, 15, 16, 17, 21] (.t 152)
    (.seq (.reg [6] [⟨(some 6), none, .mov (.c (.g (.bool false)))⟩]) <|
     .ret)
    (.skip)) <|
  .seq (.reg [2, 7, 8, 9, 10, 12, 13, 14, 15, 16, 17, 21, 22] [⟨(some 22), none, .mov (.c (.g (.int .i64 0)))⟩]) <|
  .block [2, 7, 8, 9, 10, 12, 13, 14, 15, 16, 17] 3 <|
  .loop [2, 7, 8, 9, 10, 12, 13, 14, 15, 16, 17, 21, 22] [] L14_0) <|
 .reg [2, 7, 8, 9, 10, 12, 13, 14, 15, 16, 17] [⟨(some 80), none, .mov (.t 17)⟩,
   ⟨(some 81), none, .bin .add (.t 80) (.c (.g (.int .i64 1)))⟩,
   ⟨(some 17), none, .mov (.t 81)⟩]
def F14 : IFunc := ⟨3, 172, [.tmp 6], false,
 .seq (.reg [0, 2, 4] [⟨(some 4), none, .box (.t 1)⟩,
    ⟨(some 6), none, .mov (.c (.g (.bool false)))⟩]) <|
 .seq (.seq (.reg [0, 2, 4, 47] [⟨(some 25), none, .mov (.t 2)⟩,
     ⟨(some 26), none, .len (.t 25)⟩,
     ⟨(some 27), none, .bin .gtr (.t 26) (.c (.g (.int .i64 200)))⟩,
     ⟨(some 28), none, .mov (.t 27)⟩,
     ⟨(some 29), (some (28, false)), .iaddrA 2 1 (.t 4) (.c (.g (.int .i64 0)))⟩,
     ⟨(some 30), (some (28, false)), .load false 1 (.t 29)⟩,
     ⟨(some 31), (some (28, false)), .bin .lss (.t 30) (.c (.g (.int .i64 0)))⟩,
     ⟨(some 32), none, .pick (.t 28) (.c (.g (.bool true))) (.t 31)⟩,
     ⟨(some 33), none, .mov (.t 32)⟩,
     ⟨(some 34), (some (33, false)), .iaddrA 2 1 (.t 4) (.c (.g (.int .i64 0)))⟩,
     ⟨(some 35), (some (33, false)), .load false 1 (.t 34)⟩,
     ⟨(some 36), (some (33, false)), .bin .gtr (.t 35) (.c (.g (.int .i64 274877906944)))⟩,
     ⟨(some 37), none, .pick (.t 33) (.c (.g (.bool true))) (.t 36)⟩,
     ⟨(some 38), none, .mov (.t 37)⟩,
     ⟨(some 39), (some (38, false)), .iaddrA 2 1 (.t 4) (.c (.g (.int .i64 1)))⟩,
     ⟨(some 40), (some (38, false)), .load false 1 (.t 39)⟩,
     ⟨(some 41), (some (38, false)), .bin .lss (.t 40) (.c (.g (.int .i64 0)))⟩,
     ⟨(some 42), none, .pick (.t 38) (.c (.g (.bool true))) (.t 41)⟩,
     ⟨(some 43), none, .mov (.t 42)⟩,
     ⟨(some 44), (some (43, false)), .iaddrA 2 1 (.t 4) (.c (.g (.int .i64 1)))⟩,
     ⟨(some 45), (some (43, false)), .load false 1 (.t 44)⟩,
     ⟨(some 46), (some (43, false)), .bin .gtr (.t 45) (.c (.g (.int .i64 274877906944)))⟩,
     ⟨(some 47), none, .pick (.t 43) (.c (.g (.bool true))) (.t 46)⟩]) <|
  .cond [0, 2, 4] (.t 47)
   (.seq (.reg [6] [⟨(some 48), none, .call (.c (.g (.fn 55))) []⟩,
       ⟨(some 6), none, .mov (.t 48)⟩]) <|
    .ret)
   (.skip)) <|
 .seq (.reg [0, 2, 4, 7] [⟨(some 49), none, .iaddrA 2 1 (.t 4) (.c (.g (.int .i64 0)))⟩,
    ⟨(some 50), none, .load false 1 (.t 49)⟩,
    ⟨(some 7), none, .mov (.t 50)⟩]) <|
 .seq (.reg [0, 2, 7, 8] [⟨(some 51), none, .iaddrA 2 1 (.t 4) (.c (.g (.int .i64 1)))⟩,
    ⟨(some 52), none, .load false 1 (.t 51)⟩,
    ⟨(some 8), none, .mov (.t 52)⟩]) <|
 .seq (.reg [0, 2, 7, 8, 9, 10, 11] [⟨(some 54), none, .build [.g (.int .i64 0), .g (.nsl)] []⟩,
    ⟨(some 55), none, .mov (.t 0)⟩,
    ⟨(some 56), none, .mov (.t 8)⟩,
    ⟨(some 57), none, .call (.c (.g (.fn 17))) [(.t 54), (.t 55), (.t 56)]⟩,
    ⟨(some 53), none, .mov (.t 57)⟩,
    ⟨(some 58), none, .ext 0 (.t 53)⟩,
    ⟨(some 59), none, .ext 1 (.t 53)⟩,
    ⟨(some 60), none, .ext 2 (.t 53)⟩,
    ⟨(some 9), none, .alloc [.z (.int .i64 0), .s 3]⟩,
    ⟨none, none, .store 2 (.t 9) (.t 58)⟩,
    ⟨(some 10), none, .mov (.t 59)⟩,
    ⟨(some 11), none, .mov (.t 60)⟩]) <|
 .seq (.seq (.reg [0, 2, 7, 8, 9, 10, 62] [⟨(some 61), none, .mov (.t 11)⟩,
     ⟨(some 62), none, .bin .neq (.t 61) (.c (.g (.int .i64 0)))⟩]) <|
  .cond [0, 2, 7, 8, 9, 10] (.t 62)
   (.seq (.reg [6] [⟨(some 63), none, .mov (.t 10)⟩,
       ⟨(some 64), none, .bin .eql (.t 63) (.c (.g (.int .i64 0)))⟩,
       ⟨(some 65), none, .mov (.t 64)⟩,
       ⟨(some 66), (some (65, true)), .call (.c (.g (.fn 55))) []⟩,
       ⟨(some 67), none, .pick (.t 65) (.t 66) (.c (.g (.bool false)))⟩,
       ⟨(some 6), none, .mov (.t 67)⟩]) <|
    .ret)
   (.skip)) <|
 .seq (.reg [2, 7, 8, 9, 10, 12, 13] [⟨(some 69), none, .mov (.t 7)⟩,
    ⟨(some 70), none, .mov (.t 10)⟩,
    ⟨(some 71), none, .mov (.t 0)⟩,
    ⟨(some 72), none, .build [.g (.int .i64 0), .g (.int .i64 0), .g (.int .i64 0), .g (.int .i64 0), .g (.int .i64 0), .g (.int .i64 0), .g (.bool false), .g (.nsl), .g (.nsl)] [(4, 1, (.t 70)), (5, 1, (.t 71))]⟩,
    ⟨(some 73), none, .call (.c (.g (.fn 56))) [(.t 69), (.t 72)]⟩,
    ⟨(some 68), none, .mov (.t 73)⟩,
    ⟨(some 74), none, .ext 0 (.t 68)⟩,
    ⟨(some 75), none, .ext 1 (.t 68)⟩,
    ⟨(some 12), none, .alloc [.z (.int .i64 0), .z (.int .i64 0), .z (.int .i64 0), .z (.int .i64 0)]⟩,
    ⟨none, none, .store 4 (.t 12) (.t 74)⟩,
    ⟨(some 13), none, .mov (.t 75)⟩]) <|
 .seq (.reg [2, 7, 8, 9, 10, 12, 13, 14] [⟨(some 14), none, .mov (.c (.g (.int .i64 (-1))))⟩]) <|
 .seq (.reg [2, 7, 8, 9, 10, 12, 13, 14, 15] [⟨(some 15), none, .mov (.c (.g (.bool false)))⟩]) <|
 .seq (.reg [2, 7, 8, 9, 10, 12, 13, 14, 15, 16] [⟨(some 16), none, .alloc [.z (.int .i64 0), .z (.int .i64 0), .z (.int .i64 0), .z (.int .i64 0), .z (.int .i64 0), .z (.int .i64 0), .z (.bool false), .s 6, .s 8]⟩]) <|
 .seq (.seq (.reg [2, 7, 8, 9, 10, 12, 13, 14, 15, 16, 17] [⟨(some 17), none, .mov (.c (.g (.int .i64 0)))⟩]) <|
  .block [] 0 <|
  .loop [2, 7, 8, 9, 10, 12, 13, 14, 15, 16, 17] [] L14_1) <|
 .seq (.reg [6] [⟨(some 171), none, .call (.c (.g (.fn 55))) []⟩,
    ⟨(some 6), none, .mov (.t 171)⟩]) <|
 .ret⟩
def h14 : List (List Nat) := [[0, 2, 4], [0, 2, 4, 47], [0, 2, 4], [6], [0, 2, 4, 7], [0, 2, 7, 8], [0, 2, 7, 8, 9, 10, 11], [0, 2, 7, 8, 9, 10, 62], [0, 2, 7, 8, 9, 10], [6], [2, 7, 8, 9, 10, 12, 13], [2, 7, 8, 9, 10, 12, 13, 14], [2, 7, 8, 9, 10, 12, 13, 14, 15], [2, 7, 8, 9, 10, 12, 13, 14, 15, 16], [2, 7, 8, 9, 10, 12, 13, 14, 15, 16, 17], [], [2, 7, 8, 9, 10, 12, 13, 14, 15, 16, 17], [2, 7, 8, 9, 10, 12, 13, 14, 15, 16, 17, 79], [2, 7, 8, 9, 10, 12, 13, 14, 15, 16, 17], [2, 7, 8, 9, 10, 12, 13, 14, 15, 16, 17], [2, 7, 8, 9, 10, 12, 13, 14, 15, 16, 17, 86], [2, 7, 8, 9, 10, 12, 13, 14, 15, 16, 17], [2, 7, 8, 9, 10, 12, 13, 14, 15, 16, 17, 86, 87], [2, 7, 8, 9, 10, 12, 13, 14, 15, 16, 17, 86, 87], [2, 7, 8, 9, 10, 12, 13, 14, 15, 16, 17, 86, 87], [2, 7, 8, 9, 10, 12, 13, 14, 15, 16, 17, 86, 87], [2, 7, 8, 9, 10, 12, 13, 14, 15, 16, 17, 86, 87], [2, 7, 8, 9, 10, 12, 13, 14, 15, 16, 17, 86, 87], [2, 7, 8, 9, 10, 12, 13, 14, 15, 16, 17, 86, 87], [2, 7, 8, 9, 10, 12, 13, 14, 15, 16, 17], [2, 7, 8, 9, 10, 12, 13, 14, 15, 16, 17], [2, 7, 8, 9, 10, 12, 13, 14, 15, 16, 17], [2, 7, 8, 9, 10, 12, 13, 14, 15, 16, 17, 86, 108], [2, 7, 8, 9, 10, 12, 13, 14, 15, 16, 17], [2, 7, 8, 9, 10, 12, 13, 14, 15, 16, 17, 111], [2, 7, 8, 9, 10, 12, 13, 14, 15, 16, 17], [2, 7, 8, 9, 10, 12, 13, 14, 16, 17], [2, 7, 8, 9, 10, 12, 13, 14, 15, 16, 17], [2, 7, 8, 9, 10, 12, 13, 14, 15, 16, 17, 86, 113], [2, 7, 8, 9, 10, 12, 13, 14, 15, 16, 17], [2, 7, 8, 9, 10, 12, 13, 14, 15, 16, 17, 116], [2, 7, 8, 9, 10, 12, 13, 14, 15, 16, 17], [2, 7, 8, 9, 10, 12, 13, 14, 16, 17, 18, 19, 20], [2, 7, 8, 9, 10, 12, 13, 14, 16, 17, 19, 20], [2, 7, 8, 9, 10, 12, 13, 14, 16, 17], [2, 7, 8, 9, 10, 12, 13, 14, 15, 16, 17], [2, 7, 8, 9, 10, 12, 13, 14, 15, 16, 17, 86, 130], [2, 7, 8, 9, 10, 12, 13, 14, 15, 16, 17], [2, 7, 8, 9, 10, 12, 13, 14, 15, 16, 17, 132], [2, 7, 8, 9, 10, 12, 13, 14, 15, 16, 17], [2, 7, 8, 9, 10, 12, 13, 16, 17], [2, 7, 8, 9, 10, 12, 13, 14, 16, 17], [2, 7, 8, 9, 10, 12, 13, 14, 15, 16, 17], [2, 7, 8, 9, 10, 12, 13, 14, 15, 16, 17, 137], [2, 7, 8, 9, 10, 12, 13, 14, 15, 16, 17], [2, 7, 8, 9, 10, 12, 13, 14, 16, 17], [2, 7, 8, 9, 10, 12, 13, 14, 15, 16, 17], [2, 7, 8, 9, 10, 12, 13, 14, 15, 16, 17, 21], [2, 7, 8, 9, 10, 12, 13, 14, 15, 16, 17, 21, 152], [2, 7, 8, 9, 10, 12, 13, 14, 15, 16, 17, 21], [6], [2, 7, 8, 9, 10, 12, 13, 14, 15, 16, 17, 21, 22], [2, 7, 8, 9, 10, 12, 13, 14, 15, 16, 17], [2, 7, 8, 9, 10, 12, 13, 14, 15, 16, 17, 21, 22], [2, 7, 8, 9, 10, 12, 13, 14, 15, 16, 17, 21, 22, 156], [2, 7, 8, 9, 10, 12, 13, 14, 15, 16, 17, 21, 22], [2, 7, 8, 9, 10, 12, 13, 14, 15, 16, 17, 21, 22], [2, 7, 8, 9, 10, 12, 13, 14, 15, 16, 17, 21, 22, 23, 24], [], [2, 7, 8, 9, 10, 12, 13, 14, 15, 16, 17, 21, 22, 23, 169], [2, 7, 8, 9, 10, 12, 13, 14, 15, 16, 17, 21, 22, 23], [6], [2, 7, 8, 9, 10, 12, 13, 14, 15, 16, 17, 21, 22], [2, 7, 8, 9, 10, 12, 13, 14, 15, 16, 17, 21, 22], [2, 7, 8, 9, 10, 12, 13, 14, 15, 16, 17], [6]]
theorem c14 : cFunc Try.prog 14 false h14 = some F14 := by kernel_rfl

/-- baton/batonref08.Bounded -/
def L15_0 : IC :=
 .seq (.seq (.reg [1, 3, 8] [⟨(some 4), none, .mov (.t 3)⟩,
     ⟨(some 5), none, .faddr 1 (.t 1)⟩,
     ⟨(some 6), none, .load false 1 (.t 5)⟩,
     ⟨(some 7), none, .len (.t 6)⟩,
     ⟨(some 8), none, .bin .lss (.t 4) (.t 7)⟩]) <|
  .cond [1, 3] (.t 8)
   (.skip)
   (.exit 0)) <|
 .seq (.block [1, 3] 1 <|
  .seq (.reg [1, 3, 26] [⟨(some 11), none, .faddr 1 (.t 1)⟩,
     ⟨(some 12), none, .load false 1 (.t 11)⟩,
     ⟨(some 13), none, .mov (.t 3)⟩,
     ⟨(some 14), none, .iaddr 3 (.t 12) (.t 13)⟩,
     ⟨(some 15), none, .faddr 1 (.t 14)⟩,
     ⟨(some 16), none, .load false 1 (.t 15)⟩,
     ⟨(some 17), none, .bin .gtr (.t 16) (.c (.g (.int .i64 1125899906842624)))⟩,
     ⟨(some 18), none, .mov (.t 17)⟩,
     ⟨(some 19), (some (18, false)), .faddr 1 (.t 1)⟩,
     ⟨(some 20), (some (18, false)), .load false 1 (.t 19)⟩,
     ⟨(some 21), (some (18, false)), .mov (.t 3)⟩,
     ⟨(some 22), (some (18, false)), .iaddr 3 (.t 20) (.t 21)⟩,
     ⟨(some 23), (some (18, false)), .faddr 1 (.t 22)⟩,
     ⟨(some 24), (some (18, false)), .load false 1 (.t 23)⟩,
     ⟨(some 25), (some (18, false)), .bin .lss (.t 24) (.c (.g (.int .i64 (-1125899906842624))))⟩,
     ⟨(some 26), none, .pick (.t 18) (.c (.g (.bool true))) (.t 25)⟩]) <|
  .cond [1, 3] (.t 26)
   (.seq (.reg [2] [⟨(some 2), none, .mov (.c (.g (.bool false)))⟩]) <|
    .ret)
   (.skip)) <|
 .reg [1, 3] [⟨(some 9), none, .mov (.t 3)⟩,
   ⟨(some 10), none, .bin .add (.t 9) (.c (.g (.int .i64 1)))⟩,
   ⟨(some 3), none, .mov (.t 10)⟩]
def F15 : IFunc := ⟨1, 31, [.tmp 2], false,
 .seq (.reg [1] [⟨(some 1), none, .box (.t 0)⟩,
    ⟨(some 2), none, .mov (.c (.g (.bool false)))⟩]) <|
 .seq (.seq (.reg [1, 3] [⟨(some 3), none, .mov (.c (.g (.int .i64 0)))⟩]) <|
  .block [1] 0 <|
  .loop [1, 3] [] L15_0) <|
 .seq (.reg [2] [⟨(some 27), none, .faddr 1 (.t 1)⟩,
    ⟨(some 28), none, .load false 1 (.t 27)⟩,
    ⟨(some 29), none, .len (.t 28)⟩,
    ⟨(some 30), none, .bin .leq (.t 29) (.c (.g (.int .i64 20)))⟩,
    ⟨(some 2), none, .mov (.t 30)⟩]) <|
 .ret⟩
def h15 : List (List Nat) := [[1], [1, 3], [1], [1, 3], [1, 3, 8], [1, 3], [1, 3], [1, 3, 26], [1, 3], [2], [1, 3], [2]]
theorem c15 : cFunc Try.prog 15 false h15 = some F15 := by kernel_rfl

/-- baton/batonlaw08.live -/
def F16 : IFunc := ⟨0, 160, [.tmp 0], false,
 .seq (.reg [] [⟨(some 0), none, .mov (.c (.g (.bool false)))⟩]) <|
 .seq (.reg [1, 2, 3] [⟨(some 21), none, .build [.g (.int .i64 0), .g (.nsl)] []⟩,
    ⟨(some 22), none, .call (.c (.g (.fn 17))) [(.t 21), (.c (.g (.int .i64 10))), (.c (.g (.int .i64 5)))]⟩,
    ⟨(some 20), none, .mov (.t 22)⟩,
    ⟨(some 23), none, .ext 0 (.t 20)⟩,
    ⟨(some 24), none, .ext 1 (.t 20)⟩,
    ⟨(some 25), none, .ext 2 (.t 20)⟩,
    ⟨(some 1), none, .alloc [.z (.int .i64 0), .s 3]⟩,
    ⟨none, none, .store 2 (.t 1) (.t 23)⟩,
    ⟨(some 2), none, .mov (.t 24)⟩,
    ⟨(some 3), none, .mov (.t 25)⟩]) <|
 .seq (.reg [2, 3, 4, 5, 6] [⟨(some 27), none, .load true 2 (.t 1)⟩,
    ⟨(some 28), none, .call (.c (.g (.fn 17))) [(.t 27), (.c (.g (.int .i64 3))), (.c (.g (.int .i64 6)))]⟩,
    ⟨(some 26), none, .mov (.t 28)⟩,
    ⟨(some 29), none, .ext 0 (.t 26)⟩,
    ⟨(some 30), none, .ext 1 (.t 26)⟩,
    ⟨(some 31), none, .ext 2 (.t 26)⟩,
    ⟨(some 4), none, .alloc [.z (.int .i64 0), .s 3]⟩,
    ⟨none, none, .store 2 (.t 4) (.t 29)⟩,
    ⟨(some 5), none, .mov (.t 30)⟩,
    ⟨(some 6), none, .mov (.t 31)⟩]) <|
 .seq (.reg [2, 3, 4, 5, 6, 7, 8, 9] [⟨(some 33), none, .load true 2 (.t 4)⟩,
    ⟨(some 34), none, .mov (.t 2)⟩,
    ⟨(some 35), none, .call (.c (.g (.fn 19))) [(.t 33), (.t 34), (.c (.g (.int .i64 12)))]⟩,
    ⟨(some 32), none, .mov (.t 35)⟩,
    ⟨(some 36), none, .ext 0 (.t 32)⟩,
    ⟨(some 37), none, .ext 1 (.t 32)⟩,
    ⟨(some 38), none, .ext 2 (.t 32)⟩,
    ⟨(some 7), none, .alloc [.z (.int .i64 0), .s 3]⟩,
    ⟨none, none, .store 2 (.t 7) (.t 36)⟩,
    ⟨(some 8), none, .mov (.t 37)⟩,
    ⟨(some 9), none, .mov (.t 38)⟩]) <|
 .seq (.reg [2, 3, 4, 5, 6, 7, 8, 9, 10, 11] [⟨(some 40), none, .load true 2 (.t 7)⟩,
    ⟨(some 41), none, .mov (.t 5)⟩,
    ⟨(some 42), none, .call (.c (.g (.fn 27))) [(.t 40), (.t 41)]⟩,
    ⟨(some 39), none, .mov (.t 42)⟩,
    ⟨(some 43), none, .ext 0 (.t 39)⟩,
    ⟨(some 44), none, .ext 1 (.t 39)⟩,
    ⟨(some 10), none, .alloc [.z (.int .i64 0), .s 3]⟩,
    ⟨none, none, .store 2 (.t 10) (.t 43)⟩,
    ⟨(some 11), none, .mov (.t 44)⟩]) <|
 .seq (.reg [2, 3, 4, 5, 6, 7, 8, 9, 10, 11, 14] [⟨(some 46), none, .load true 2 (.t 10)⟩,
    ⟨(some 47), none, .mov (.t 5)⟩,
    ⟨(some 48), none, .call (.c (.g (.fn 19))) [(.t 46), (.t 47), (.c (.g (.int .i64 12)))]⟩,
    ⟨(some 45), none, .mov (.t 48)⟩,
    ⟨(some 49), none, .ext 0 (.t 45)⟩,
    ⟨(some 50), none, .ext 1 (.t 45)⟩,
    ⟨(some 51), none, .ext 2 (.t 45)⟩,
    ⟨(some 12), none, .alloc [.z (.int .i64 0), .s 3]⟩,
    ⟨none, none, .store 2 (.t 12) (.t 49)⟩,
    ⟨(some 13), none, .mov (.t 50)⟩,
    ⟨(some 14), none, .mov (.t 51)⟩]) <|
 .seq (.reg [2, 3, 4, 5, 6, 7, 8, 9, 10, 11, 14, 17] [⟨(some 53), none, .load true 2 (.t 10)⟩,
    ⟨(some 54), none, .call (.c (.g (.fn 17))) [(.t 53), (.c (.g (.int .i64 0))), (.c (.g (.int .i64 12)))]⟩,
    ⟨(some 52), none, .mov (.t 54)⟩,
    ⟨(some 55), none, .ext 0 (.t 52)⟩,
    ⟨(some 56), none, .ext 1 (.t 52)⟩,
    ⟨(some 57), none, .ext 2 (.t 52)⟩,
    ⟨(some 15), none, .alloc [.z (.int .i64 0), .s 3]⟩,
    ⟨none, none, .store 2 (.t 15) (.t 55)⟩,
    ⟨(some 16), none, .mov (.t 56)⟩,
    ⟨(some 17), none, .mov (.t 57)⟩]) <|
 .seq (.reg [2, 3, 4, 5, 6, 7, 8, 9, 10, 11, 14, 17, 18] [⟨(some 58), none, .load true 2 (.t 4)⟩,
    ⟨(some 59), none, .call (.c (.g (.fn 30))) [(.t 58), (.c (.g (.int .i64 10)))]⟩,
    ⟨(some 18), none, .mov (.t 59)⟩]) <|
 .seq (.reg [2, 3, 4, 5, 6, 7, 8, 9, 10, 11, 14, 17, 18, 19] [⟨(some 60), none, .build [.g (.str []), .g (.str []), .g (.int .i64 0), .g (.int .i64 0), .g (.int .i64 0), .g (.int .i64 0)] [(0, 1, (.c (.g (.str [120])))), (5, 1, (.c (.g (.int .i64 2))))]⟩,
    ⟨(some 61), none, .build [.g (.str []), .g (.str []), .g (.int .i64 0), .g (.int .i64 0), .g (.int .i64 0), .g (.int .i64 0)] [(0, 1, (.c (.g (.str [121]))))]⟩,
    ⟨(some 62), none, .build [.g (.str []), .g (.str []), .g (.int .i64 0), .g (.int .i64 0), .g (.int .i64 0), .g (.int .i64 0)] [(0, 1, (.c (.g (.str [122])))), (5, 1, (.c (.g (.int .i64 2))))]⟩,
    ⟨(some 63), none, .bslice 6 3 [.str [], .str [], .int .i64 0, .int .i64 0, .int .i64 0, .int .i64 0] [(0, 6, (.t 60)), (6, 6, (.t 61)), (12, 6, (.t 62))]⟩,
    ⟨(some 64), none, .call (.c (.g (.fn 33))) [(.t 63), (.c (.g (.int .i64 2)))]⟩,
    ⟨(some 19), none, .mov (.t 64)⟩]) <|
 .seq (.reg [0] [⟨(some 65), none, .mov (.t 2)⟩,
    ⟨(some 66), none, .bin .eql (.t 65) (.c (.g (.int .i64 1)))⟩,
    ⟨(some 67), none, .mov (.t 66)⟩,
    ⟨(some 68), (some (67, true)), .mov (.t 3)⟩,
    ⟨(some 69), (some (67, true)), .bin .eql (.t 68) (.c (.g (.int .i64 0)))⟩,
    ⟨(some 70), none, .pick (.t 67) (.t 69) (.c (.g (.bool false)))⟩,
    ⟨(some 71), none, .mov (.t 70)⟩,
    ⟨(some 72), (some (71, true)), .mov (.t 5)⟩,
    ⟨(some 73), (some (71, true)), .bin .eql (.t 72) (.c (.g (.int .i64 2)))⟩,
    ⟨(some 74), none, .pick (.t 71) (.t 73) (.c (.g (.bool false)))⟩,
    ⟨(some 75), none, .mov (.t 74)⟩,
    ⟨(some 76), (some (75, true)), .mov (.t 6)⟩,
    ⟨(some 77), (some (75, true)), .bin .eql (.t 76) (.c (.g (.int .i64 0)))⟩,
    ⟨(some 78), none, .pick (.t 75) (.t 77) (.c (.g (.bool false)))⟩,
    ⟨(some 79), none, .mov (.t 78)⟩,
    ⟨(some 80), (some (79, true)), .mov (.t 8)⟩,
    ⟨(some 81), (some (79, true)), .bin .eql (.t 80) (.c (.g (.int .i64 10)))⟩,
    ⟨(some 82), none, .pick (.t 79) (.t 81) (.c (.g (.bool false)))⟩,
    ⟨(some 83), none, .mov (.t 82)⟩,
    ⟨(some 84), (some (83, true)), .mov (.t 9)⟩,
    ⟨(some 85), (some (83, true)), .bin .eql (.t 84) (.c (.g (.int .i64 0)))⟩,
    ⟨(some 86), none, .pick (.t 83) (.t 85) (.c (.g (.bool false)))⟩,
    ⟨(some 87), none, .mov (.t 86)⟩,
    ⟨(some 88), (some (87, true)), .faddr 1 (.t 7)⟩,
    ⟨(some 89), (some (87, true)), .load false 1 (.t 88)⟩,
    ⟨(some 90), (some (87, true)), .len (.t 89)⟩,
    ⟨(some 91), (some (87, true)), .bin .eql (.t 90) (.c (.g (.int .i64 2)))⟩,
    ⟨(some 92), none, .pick (.t 87) (.t 91) (.c (.g (.bool false)))⟩,
    ⟨(some 93), none, .mov (.t 92)⟩,
    ⟨(some 94), (some (93, true)), .faddr 1 (.t 7)⟩,
    ⟨(some 95), (some (93, true)), .load false 1 (.t 94)⟩,
    ⟨(some 96), (some (93, true)), .iaddr 3 (.t 95) (.c (.g (.int .i64 0)))⟩,
    ⟨(some 97), (some (93, true)), .faddr 2 (.t 96)⟩,
    ⟨(some 98), (some (93, true)), .load false 1 (.t 97)⟩,
    ⟨(some 99), (some (93, true)), .bin .eql (.t 98) (.c (.g (.int .i64 22)))⟩,
    ⟨(some 100), none, .pick (.t 93) (.t 99) (.c (.g (.bool false)))⟩,
    ⟨(some 101), none, .mov (.t 100)⟩,
    ⟨(some 102), (some (101, true)), .mov (.t 11)⟩,
    ⟨(some 103), (some (101, true)), .bin .eql (.t 102) (.c (.g (.int .i64 0)))⟩,
    ⟨(some 104), none, .pick (.t 101) (.t 103) (.c (.g (.bool false)))⟩,
    ⟨(some 105), none, .mov (.t 104)⟩,
    ⟨(some 106), (some (105, true)), .faddr 1 (.t 10)⟩,
    ⟨(some 107), (some (105, true)), .load false 1 (.t 106)⟩,
    ⟨(some 108), (some (105, true)), .len (.t 107)⟩,
    ⟨(some 109), (some (105, true)), .bin .eql (.t 108) (.c (.g (.int .i64 1)))⟩,
    ⟨(some 110), none, .pick (.t 105) (.t 109) (.c (.g (.bool false)))⟩,
    ⟨(some 111), none, .mov (.t 110)⟩,
    ⟨(some 112), (some (111, true)), .mov (.t 14)⟩,
    ⟨(some 113), (some (111, true)), .bin .eql (.t 112) (.c (.g (.int .i64 6)))⟩,
    ⟨(some 114), none, .pick (.t 111) (.t 113) (.c (.g (.bool false)))⟩,
    ⟨(some 115), none, .mov (.t 114)⟩,
    ⟨(some 116), (some (115, true)), .mov (.t 17)⟩,
    ⟨(some 117), (some (115, true)), .bin .eql (.t 116) (.c (.g (.int .i64 1)))⟩,
    ⟨(some 118), none, .pick (.t 115) (.t 117) (.c (.g (.bool false)))⟩,
    ⟨(some 119), none, .mov (.t 118)⟩,
    ⟨(some 120), (some (119, true)), .mov (.t 18)⟩,
    ⟨(some 121), (some (119, true)), .len (.t 120)⟩,
    ⟨(some 122), (some (119, true)), .bin .eql (.t 121) (.c (.g (.int .i64 1)))⟩,
    ⟨(some 123), none, .pick (.t 119) (.t 122) (.c (.g (.bool false)))⟩,
    ⟨(some 124), none, .mov (.t 123)⟩,
    ⟨(some 125), (some (124, true)), .mov (.t 18)⟩,
    ⟨(some 126), (some (124, true)), .iaddr 1 (.t 125) (.c (.g (.int .i64 0)))⟩,
    ⟨(some 127), (some (124, true)), .load false 1 (.t 126)⟩,
    ⟨(some 128), (some (124, true)), .bin .eql (.t 127) (.c (.g (.int .i64 2)))⟩,
    ⟨(some 129), none, .pick (.t 124) (.t 128) (.c (.g (.bool false)))⟩,
    ⟨(some 130), none, .mov (.t 129)⟩,
    ⟨(some 131), (some (130, true)), .mov (.t 19)⟩,
    ⟨(some 132), (some (130, true)), .len (.t 131)⟩,
    ⟨(some 133), (some (130, true)), .bin .eql (.t 132) (.c (.g (.int .i64 2)))⟩,
    ⟨(some 134), none, .pick (.t 130) (.t 133) (.c (.g (.bool false)))⟩,
    ⟨(some 135), none, .mov (.t 134)⟩,
    ⟨(some 136), (some (135, true)), .mov (.t 19)⟩,
    ⟨(some 137), (some (135, true)), .iaddr 4 (.t 136) (.c (.g (.int .i64 1)))⟩,
    ⟨(some 138), (some (135, true)), .load true 4 (.t 137)⟩,
    ⟨(some 139), (some (135, true)), .build [.g (.bool false), .g (.str []), .g (.str []), .g (.int .i64 0)] [(0, 1, (.c (.g (.bool true)))), (1, 1, (.c (.g (.str [122]))))]⟩,
    ⟨(some 140), (some (135, true)), .eqs false true [.b, .s, .s, .i] (.t 138) (.t 139)⟩,
    ⟨(some 141), none, .pick (.t 135) (.t 140) (.c (.g (.bool false)))⟩,
    ⟨(some 142), none, .mov (.t 141)⟩,
    ⟨(some 143), (some (142, true)), .load true 2 (.t 4)⟩,
    ⟨(some 144), (some (142, true)), .call (.c (.g (.fn 24))) [(.t 143), (.c (.g (.int .i64 2)))]⟩,
    ⟨(some 145), none, .pick (.t 142) (.t 144) (.c (.g (.bool false)))⟩,
    ⟨(some 146), none, .mov (.t 145)⟩,
    ⟨(some 147), (some (146, true)), .load true 2 (.t 10)⟩,
    ⟨(some 148), (some (146, true)), .call (.c (.g (.fn 24))) [(.t 147), (.c (.g (.int .i64 2)))]⟩,
    ⟨(some 149), (some (146, true)), .un .not (.t 148)⟩,
    ⟨(some 150), none, .pick (.t 146) (.t 149) (.c (.g (.bool false)))⟩,
    ⟨(some 151), none, .mov (.t 150)⟩,
    ⟨(some 152), (some (151, true)), .load true 2 (.t 4)⟩,
    ⟨(some 153), (some (151, true)), .call (.c (.g (.fn 22))) [(.t 152)]⟩,
    ⟨(some 154), none, .pick (.t 151) (.t 153) (.c (.g (.bool false)))⟩,
    ⟨(some 155), none, .mov (.t 154)⟩,
    ⟨(some 156), (some (155, true)), .build [.g (.int .i64 0), .g (.nsl)] [(0, 1, (.c (.g (.int .i64 (-1)))))]⟩,
    ⟨(some 157), (some (155, true)), .call (.c (.g (.fn 22))) [(.t 156)]⟩,
    ⟨(some 158), (some (155, true)), .un .not (.t 157)⟩,
    ⟨(some 159), none, .pick (.t 155) (.t 158) (.c (.g (.bool false)))⟩,
    ⟨(some 0), none, .mov (.t 159)⟩]) <|
 .ret⟩
def h16 : List (List Nat) := [[], [1, 2, 3], [2, 3, 4, 5, 6], [2, 3, 4, 5, 6, 7, 8, 9], [2, 3, 4, 5, 6, 7, 8, 9, 10, 11], [2, 3, 4, 5, 6, 7, 8, 9, 10, 11, 14], [2, 3, 4, 5, 6, 7, 8, 9, 10, 11, 14, 17], [2, 3, 4, 5, 6, 7, 8, 9, 10, 11, 14, 17, 18], [2, 3, 4, 5, 6, 7, 8, 9, 10, 11, 14, 17, 18, 19], [0]]
theorem c16 : cFunc Try.prog 16 false h16 = some F16 := by kernel_rfl

/-- baton/lease.Grant -/
def F17 : IFunc := ⟨3, 54, [.cell 6 true 2, .tmp 7, .tmp 8], false,
 .seq (.reg [1, 2, 3, 6] [⟨(some 3), none, .box (.t 0)⟩,
    ⟨(some 6), none, .alloc [.z (.int .i64 0), .s 3]⟩,
    ⟨(some 7), none, .mov (.c (.g (.int .i64 0)))⟩,
    ⟨(some 8), none, .mov (.c (.g (.int .i64 0)))⟩]) <|
 .seq (.reg [1, 3, 6, 9] [⟨(some 11), none, .mov (.t 2)⟩,
    ⟨(some 9), none, .mov (.t 11)⟩]) <|
 .seq (.seq (.reg [1, 3, 6, 9, 22] [⟨(some 12), none, .mov (.t 1)⟩,
     ⟨(some 13), none, .bin .lss (.t 12) (.c (.g (.int .i64 1)))⟩,
     ⟨(some 14), none, .mov (.t 13)⟩,
     ⟨(some 15), (some (14, false)), .mov (.t 1)⟩,
     ⟨(some 16), (some (14, false)), .bin .gtr (.t 15) (.c (.g (.int .i64 1000)))⟩,
     ⟨(some 17), none, .pick (.t 14) (.c (.g (.bool true))) (.t 16)⟩,
     ⟨(some 18), none, .mov (.t 17)⟩,
     ⟨(some 19), (some (18, false)), .mov (.t 9)⟩,
     ⟨(some 20), (some (18, false)), .call (.c (.g (.fn 60))) [(.t 19)]⟩,
     ⟨(some 21), (some (18, false)), .un .not (.t 20)⟩,
     ⟨(some 22), none, .pick (.t 18) (.c (.g (.bool true))) (.t 21)⟩]) <|
  .cond [1, 3, 6, 9] (.t 22)
   (.seq (.reg [6, 7, 8] [⟨(some 23), none, .load true 2 (.t 3)⟩,
       ⟨none, none, .store 2 (.t 6) (.t 23)⟩,
       ⟨(some 7), none, .mov (.c (.g (.int .i64 0)))⟩,
       ⟨(some 8), none, .mov (.c (.g (.int .i64 1)))⟩]) <|
    .ret)
   (.skip)) <|
 .seq (.seq (.reg [1, 3, 6, 9, 32] [⟨(some 24), none, .faddr 1 (.t 3)⟩,
     ⟨(some 25), none, .load false 1 (.t 24)⟩,
     ⟨(some 26), none, .len (.t 25)⟩,
     ⟨(some 27), none, .bin .geq (.t 26) (.c (.g (.int .i64 8)))⟩,
     ⟨(some 28), none, .mov (.t 27)⟩,
     ⟨(some 29), (some (28, false)), .faddr 0 (.t 3)⟩,
     ⟨(some 30), (some (28, false)), .load false 1 (.t 29)⟩,
     ⟨(some 31), (some (28, false)), .bin .geq (.t 30) (.c (.g (.int .i64 1099511627775)))⟩,
     ⟨(some 32), none, .pick (.t 28) (.c (.g (.bool true))) (.t 31)⟩]) <|
  .cond [1, 3, 6, 9] (.t 32)
   (.seq (.reg [6, 7, 8] [⟨(some 33), none, .load true 2 (.t 3)⟩,
       ⟨none, none, .store 2 (.t 6) (.t 33)⟩,
       ⟨(some 7), none, .mov (.c (.g (.int .i64 0)))⟩,
       ⟨(some 8), none, .mov (.c (.g (.int .i64 4)))⟩]) <|
    .ret)
   (.skip)) <|
 .seq (.reg [1, 3, 6, 9] [⟨(some 34), none, .faddr 0 (.t 3)⟩,
    ⟨(some 35), none, .load false 1 (.t 34)⟩,
    ⟨(some 36), none, .bin .add (.t 35) (.c (.g (.int .i64 1)))⟩,
    ⟨(some 37), none, .faddr 0 (.t 3)⟩,
    ⟨none, none, .store 1 (.t 37) (.t 36)⟩]) <|
 .seq (.reg [3, 6, 9, 10] [⟨(some 38), none, .faddr 0 (.t 3)⟩,
    ⟨(some 39), none, .load false 1 (.t 38)⟩,
    ⟨(some 40), none, .mov (.t 1)⟩,
    ⟨(some 41), none, .build [.g (.int .i64 0), .g (.int .i64 0), .g (.int .i64 0)] [(0, 1, (.t 39)), (1, 1, (.t 40))]⟩,
    ⟨(some 10), none, .alloc [.z (.int .i64 0), .z (.int .i64 0), .z (.int .i64 0)]⟩,
    ⟨none, none, .store 3 (.t 10) (.t 41)⟩]) <|
 .seq (.reg [3, 6, 10] [⟨(some 42), none, .mov (.t 9)⟩,
    ⟨(some 43), none, .call (.c (.g (.fn 61))) [(.t 10), (.t 42)]⟩]) <|
 .seq (.reg [3, 6] [⟨(some 44), none, .faddr 1 (.t 3)⟩,
    ⟨(some 45), none, .load false 1 (.t 44)⟩,
    ⟨(some 46), none, .load true 3 (.t 10)⟩,
    ⟨(some 47), none, .bslice 3 1 [.int .i64 0, .int .i64 0, .int .i64 0] [(0, 3, (.t 46))]⟩,
    ⟨(some 48), none, .bslice 1 2 [.nsl] [(0, 1, (.t 45)), (1, 1, (.t 47))]⟩,
    ⟨(some 49), none, .call (.c (.g (.fn 62))) [(.t 48)]⟩,
    ⟨(some 50), none, .faddr 1 (.t 3)⟩,
    ⟨none, none, .store 1 (.t 50) (.t 49)⟩]) <|
 .seq (.drw [6, 7, 8] 0 <|
  .take ⟨(some 51), none, .load true 2 (.t 3)⟩ <|
  .take ⟨(some 52), none, .faddr 0 (.t 3)⟩ <|
  .take ⟨(some 53), none, .load false 1 (.t 52)⟩ <|
  .one ⟨none, none, .store 2 (.t 6) (.t 51)⟩ <|
  .free <|
  .take ⟨(some 7), none, .mov (.t 53)⟩ <|
  .take ⟨(some 8), none, .mov (.c (.g (.int .i64 0)))⟩ <|
  .leaf) <|
 .ret⟩
def h17 : List (List Nat) := [[1, 2, 3, 6], [1, 3, 6, 9], [1, 3, 6, 9, 22], [1, 3, 6, 9], [6, 7, 8], [1, 3, 6, 9, 32], [1, 3, 6, 9], [6, 7, 8], [1, 3, 6, 9], [3, 6, 9, 10], [3, 6, 10], [3, 6], [6, 7, 8], []]
theorem c17 : cFunc Try.prog 17 false h17 = some F17 := by kernel_rfl

/-- baton/batonref08.Grant -/
def F18 : IFunc := ⟨3, 57, [.cell 6 true 2, .tmp 7, .tmp 8], false,
 .seq (.reg [1, 2, 3, 6] [⟨(some 3), none, .box (.t 0)⟩,
    ⟨(some 6), none, .alloc [.z (.int .i64 0), .s 3]⟩,
    ⟨(some 7), none, .mov (.c (.g (.int .i64 0)))⟩,
    ⟨(some 8), none, .mov (.c (.g (.int .i64 0)))⟩]) <|
 .seq (.seq (.reg [1, 2, 3, 6, 20] [⟨(some 10), none, .mov (.t 1)⟩,
     ⟨(some 11), none, .bin .lss (.t 10) (.c (.g (.int .i64 1)))⟩,
     ⟨(some 12), none, .mov (.t 11)⟩,
     ⟨(some 13), (some (12, false)), .mov (.t 1)⟩,
     ⟨(some 14), (some (12, false)), .bin .gtr (.t 13) (.c (.g (.int .i64 1000)))⟩,
     ⟨(some 15), none, .pick (.t 12) (.c (.g (.bool true))) (.t 14)⟩,
     ⟨(some 16), none, .mov (.t 15)⟩,
     ⟨(some 17), (some (16, false)), .mov (.t 2)⟩,
     ⟨(some 18), (some (16, false)), .call (.c (.g (.fn 63))) [(.t 17)]⟩,
     ⟨(some 19), (some (16, false)), .un .not (.t 18)⟩,
     ⟨(some 20), none, .pick (.t 16) (.c (.g (.bool true))) (.t 19)⟩]) <|
  .cond [1, 2, 3, 6] (.t 20)
   (.seq (.reg [6, 7, 8] [⟨(some 21), none, .load true 2 (.t 3)⟩,
       ⟨none, none, .store 2 (.t 6) (.t 21)⟩,
       ⟨(some 7), none, .mov (.c (.g (.int .i64 0)))⟩,
       ⟨(some 8), none, .mov (.c (.g (.int .i64 1)))⟩]) <|
    .ret)
   (.skip)) <|
 .seq (.seq (.reg [1, 2, 3, 6, 30] [⟨(some 22), none, .faddr 1 (.t 3)⟩,
     ⟨(some 23), none, .load false 1 (.t 22)⟩,
     ⟨(some 24), none, .len (.t 23)⟩,
     ⟨(some 25), none, .bin .geq (.t 24) (.c (.g (.int .i64 8)))⟩,
     ⟨(some 26), none, .mov (.t 25)⟩,
     ⟨(some 27), (some (26, false)), .faddr 0 (.t 3)⟩,
     ⟨(some 28), (some (26, false)), .load false 1 (.t 27)⟩,
     ⟨(some 29), (some (26, false)), .bin .geq (.t 28) (.c (.g (.int .i64 1099511627775)))⟩,
     ⟨(some 30), none, .pick (.t 26) (.c (.g (.bool true))) (.t 29)⟩]) <|
  .cond [1, 2, 3, 6] (.t 30)
   (.seq (.reg [6, 7, 8] [⟨(some 31), none, .load true 2 (.t 3)⟩,
       ⟨none, none, .store 2 (.t 6) (.t 31)⟩,
       ⟨(some 7), none, .mov (.c (.g (.int .i64 0)))⟩,
       ⟨(some 8), none, .mov (.c (.g (.int .i64 4)))⟩]) <|
    .ret)
   (.skip)) <|
 .seq (.reg [1, 2, 3, 6, 9] [⟨(some 32), none, .faddr 0 (.t 3)⟩,
    ⟨(some 33), none, .load false 1 (.t 32)⟩,
    ⟨(some 34), none, .bin .add (.t 33) (.c (.g (.int .i64 1)))⟩,
    ⟨(some 35), none, .build [.g (.int .i64 0), .g (.nsl)] [(0, 1, (.t 34))]⟩,
    ⟨(some 9), none, .alloc [.z (.int .i64 0), .s 3]⟩,
    ⟨none, none, .store 2 (.t 9) (.t 35)⟩]) <|
 .seq (.reg [1, 2, 6, 9] [⟨(some 36), none, .faddr 1 (.t 9)⟩,
    ⟨(some 37), none, .load false 1 (.t 36)⟩,
    ⟨(some 38), none, .faddr 1 (.t 3)⟩,
    ⟨(some 39), none, .load false 1 (.t 38)⟩,
    ⟨(some 40), none, .app 3 24 (.t 37) (.t 39)⟩,
    ⟨(some 41), none, .faddr 1 (.t 9)⟩,
    ⟨none, none, .store 1 (.t 41) (.t 40)⟩]) <|
 .seq (.reg [6, 9] [⟨(some 42), none, .faddr 1 (.t 9)⟩,
    ⟨(some 43), none, .load false 1 (.t 42)⟩,
    ⟨(some 44), none, .faddr 0 (.t 9)⟩,
    ⟨(some 45), none, .load false 1 (.t 44)⟩,
    ⟨(some 46), none, .mov (.t 1)⟩,
    ⟨(some 47), none, .mov (.t 2)⟩,
    ⟨(some 48), none, .mov (.t 1)⟩,
    ⟨(some 49), none, .bin .add (.t 47) (.t 48)⟩,
    ⟨(some 50), none, .build [.g (.int .i64 0), .g (.int .i64 0), .g (.int .i64 0)] [(0, 1, (.t 45)), (1, 1, (.t 46)), (2, 1, (.t 49))]⟩,
    ⟨(some 51), none, .bslice 3 1 [.int .i64 0, .int .i64 0, .int .i64 0] [(0, 3, (.t 50))]⟩,
    ⟨(some 52), none, .app 3 24 (.t 43) (.t 51)⟩,
    ⟨(some 53), none, .faddr 1 (.t 9)⟩,
    ⟨none, none, .store 1 (.t 53) (.t 52)⟩]) <|
 .seq (.drw [6, 7, 8] 0 <|
  .take ⟨(some 54), none, .load true 2 (.t 9)⟩ <|
  .take ⟨(some 55), none, .faddr 0 (.t 9)⟩ <|
  .take ⟨(some 56), none, .load false 1 (.t 55)⟩ <|
  .one ⟨none, none, .store 2 (.t 6) (.t 54)⟩ <|
  .free <|
  .take ⟨(some 7), none, .mov (.t 56)⟩ <|
  .take ⟨(some 8), none, .mov (.c (.g (.int .i64 0)))⟩ <|
  .leaf) <|
 .ret⟩
def h18 : List (List Nat) := [[1, 2, 3, 6], [1, 2, 3, 6, 20], [1, 2, 3, 6], [6, 7, 8], [1, 2, 3, 6, 30], [1, 2, 3, 6], [6, 7, 8], [1, 2, 3, 6, 9], [1, 2, 6, 9], [6, 9], [6, 7, 8], []]
theorem c18 : cFunc Try.prog 18 false h18 = some F18 := by kernel_rfl

/-- baton/lease.Keep -/
def F19 : IFunc := ⟨3, 42, [.cell 6 true 2, .tmp 7, .tmp 8], false,
 .seq (.reg [1, 2, 3, 6] [⟨(some 3), none, .box (.t 0)⟩,
    ⟨(some 6), none, .alloc [.z (.int .i64 0), .s 3]⟩,
    ⟨(some 7), none, .mov (.c (.g (.int .i64 0)))⟩,
    ⟨(some 8), none, .mov (.c (.g (.int .i64 0)))⟩]) <|
 .seq (.reg [1, 3, 6, 9] [⟨(some 12), none, .mov (.t 2)⟩,
    ⟨(some 9), none, .mov (.t 12)⟩]) <|
 .seq (.seq (.reg [1, 3, 6, 9, 15] [⟨(some 13), none, .mov (.t 9)⟩,
     ⟨(some 14), none, .call (.c (.g (.fn 60))) [(.t 13)]⟩,
     ⟨(some 15), none, .un .not (.t 14)⟩]) <|
  .cond [1, 3, 6, 9] (.t 15)
   (.seq (.reg [6, 7, 8] [⟨(some 16), none, .load true 2 (.t 3)⟩,
       ⟨none, none, .store 2 (.t 6) (.t 16)⟩,
       ⟨(some 7), none, .mov (.c (.g (.int .i64 0)))⟩,
       ⟨(some 8), none, .mov (.c (.g (.int .i64 1)))⟩]) <|
    .ret)
   (.skip)) <|
 .seq (.reg [3, 6, 9, 10] [⟨(some 17), none, .load true 2 (.t 3)⟩,
    ⟨(some 18), none, .mov (.t 1)⟩,
    ⟨(some 19), none, .call (.c (.g (.fn 64))) [(.t 17), (.t 18)]⟩,
    ⟨(some 10), none, .mov (.t 19)⟩]) <|
 .seq (.seq (.reg [3, 6, 9, 10, 21] [⟨(some 20), none, .mov (.t 10)⟩,
     ⟨(some 21), none, .bin .lss (.t 20) (.c (.g (.int .i64 0)))⟩]) <|
  .cond [3, 6, 9, 10] (.t 21)
   (.seq (.reg [6, 7, 8] [⟨(some 22), none, .load true 2 (.t 3)⟩,
       ⟨none, none, .store 2 (.t 6) (.t 22)⟩,
       ⟨(some 7), none, .mov (.c (.g (.int .i64 0)))⟩,
       ⟨(some 8), none, .mov (.c (.g (.int .i64 6)))⟩]) <|
    .ret)
   (.skip)) <|
 .seq (.reg [3, 6, 9, 10, 11] [⟨(some 23), none, .faddr 1 (.t 3)⟩,
    ⟨(some 24), none, .load false 1 (.t 23)⟩,
    ⟨(some 25), none, .mov (.t 10)⟩,
    ⟨(some 26), none, .iaddr 3 (.t 24) (.t 25)⟩,
    ⟨(some 27), none, .load true 3 (.t 26)⟩,
    ⟨(some 11), none, .alloc [.z (.int .i64 0), .z (.int .i64 0), .z (.int .i64 0)]⟩,
    ⟨none, none, .store 3 (.t 11) (.t 27)⟩]) <|
 .seq (.reg [3, 6, 10, 11] [⟨(some 28), none, .mov (.t 9)⟩,
    ⟨(some 29), none, .call (.c (.g (.fn 61))) [(.t 11), (.t 28)]⟩]) <|
 .seq (.reg [3, 6, 10, 11] [⟨(some 30), none, .faddr 1 (.t 3)⟩,
    ⟨(some 31), none, .load false 1 (.t 30)⟩,
    ⟨(some 32), none, .call (.c (.g (.fn 65))) [(.t 31)]⟩,
    ⟨(some 33), none, .faddr 1 (.t 3)⟩,
    ⟨none, none, .store 1 (.t 33) (.t 32)⟩]) <|
 .seq (.reg [3, 6, 11] [⟨(some 34), none, .faddr 1 (.t 3)⟩,
    ⟨(some 35), none, .load false 1 (.t 34)⟩,
    ⟨(some 36), none, .mov (.t 10)⟩,
    ⟨(some 37), none, .load true 3 (.t 11)⟩,
    ⟨(some 38), none, .iaddr 3 (.t 35) (.t 36)⟩,
    ⟨none, none, .store 3 (.t 38) (.t 37)⟩]) <|
 .seq (.drw [6, 7, 8] 0 <|
  .take ⟨(some 39), none, .load true 2 (.t 3)⟩ <|
  .take ⟨(some 40), none, .faddr 1 (.t 11)⟩ <|
  .take ⟨(some 41), none, .load false 1 (.t 40)⟩ <|
  .one ⟨none, none, .store 2 (.t 6) (.t 39)⟩ <|
  .free <|
  .take ⟨(some 7), none, .mov (.t 41)⟩ <|
  .take ⟨(some 8), none, .mov (.c (.g (.int .i64 0)))⟩ <|
  .leaf) <|
 .ret⟩
def h19 : List (List Nat) := [[1, 2, 3, 6], [1, 3, 6, 9], [1, 3, 6, 9, 15], [1, 3, 6, 9], [6, 7, 8], [3, 6, 9, 10], [3, 6, 9, 10, 21], [3, 6, 9, 10], [6, 7, 8], [3, 6, 9, 10, 11], [3, 6, 10, 11], [3, 6, 10, 11], [3, 6, 11], [6, 7, 8], []]
theorem c19 : cFunc Try.prog 19 false h19 = some F19 := by kernel_rfl

/-- baton/batonref08.Keep -/
def F20 : IFunc := ⟨3, 65, [.cell 6 true 2, .tmp 7, .tmp 8], false,
 .seq (.reg [1, 2, 3, 6] [⟨(some 3), none, .box (.t 0)⟩,
    ⟨(some 6), none, .alloc [.z (.int .i64 0), .s 3]⟩,
    ⟨(some 7), none, .mov (.c (.g (.int .i64 0)))⟩,
    ⟨(some 8), none, .mov (.c (.g (.int .i64 0)))⟩]) <|
 .seq (.seq (.reg [1, 2, 3, 6, 13] [⟨(some 11), none, .mov (.t 2)⟩,
     ⟨(some 12), none, .call (.c (.g (.fn 63))) [(.t 11)]⟩,
     ⟨(some 13), none, .un .not (.t 12)⟩]) <|
  .cond [1, 2, 3, 6] (.t 13)
   (.seq (.reg [6, 7, 8] [⟨(some 14), none, .load true 2 (.t 3)⟩,
       ⟨none, none, .store 2 (.t 6) (.t 14)⟩,
       ⟨(some 7), none, .mov (.c (.g (.int .i64 0)))⟩,
       ⟨(some 8), none, .mov (.c (.g (.int .i64 1)))⟩]) <|
    .ret)
   (.skip)) <|
 .seq (.reg [2, 3, 6, 9] [⟨(some 15), none, .load true 2 (.t 3)⟩,
    ⟨(some 16), none, .mov (.t 1)⟩,
    ⟨(some 17), none, .call (.c (.g (.fn 66))) [(.t 15), (.t 16)]⟩,
    ⟨(some 9), none, .mov (.t 17)⟩]) <|
 .seq (.seq (.reg [2, 3, 6, 9, 19] [⟨(some 18), none, .mov (.t 9)⟩,
     ⟨(some 19), none, .bin .lss (.t 18) (.c (.g (.int .i64 0)))⟩]) <|
  .cond [2, 3, 6, 9] (.t 19)
   (.seq (.reg [6, 7, 8] [⟨(some 20), none, .load true 2 (.t 3)⟩,
       ⟨none, none, .store 2 (.t 6) (.t 20)⟩,
       ⟨(some 7), none, .mov (.c (.g (.int .i64 0)))⟩,
       ⟨(some 8), none, .mov (.c (.g (.int .i64 6)))⟩]) <|
    .ret)
   (.skip)) <|
 .seq (.reg [2, 3, 6, 9, 10] [⟨(some 21), none, .faddr 0 (.t 3)⟩,
    ⟨(some 22), none, .load false 1 (.t 21)⟩,
    ⟨(some 23), none, .build [.g (.int .i64 0), .g (.nsl)] [(0, 1, (.t 22))]⟩,
    ⟨(some 10), none, .alloc [.z (.int .i64 0), .s 3]⟩,
    ⟨none, none, .store 2 (.t 10) (.t 23)⟩]) <|
 .seq (.reg [2, 6, 9, 10] [⟨(some 24), none, .faddr 1 (.t 10)⟩,
    ⟨(some 25), none, .load false 1 (.t 24)⟩,
    ⟨(some 26), none, .faddr 1 (.t 3)⟩,
    ⟨(some 27), none, .load false 1 (.t 26)⟩,
    ⟨(some 28), none, .app 3 24 (.t 25) (.t 27)⟩,
    ⟨(some 29), none, .faddr 1 (.t 10)⟩,
    ⟨none, none, .store 1 (.t 29) (.t 28)⟩]) <|
 .seq (.seq (.drw [2, 6, 9, 10, 44] 0 <|
   .take ⟨(some 30), none, .mov (.t 2)⟩ <|
   .take ⟨(some 31), none, .faddr 1 (.t 10)⟩ <|
   .take ⟨(some 32), none, .load false 1 (.t 31)⟩ <|
   .take ⟨(some 33), none, .mov (.t 9)⟩ <|
   .take ⟨(some 34), none, .iaddr 3 (.t 32) (.t 33)⟩ <|
   .take ⟨(some 35), none, .faddr 1 (.t 34)⟩ <|
   .take ⟨(some 36), none, .load false 1 (.t 35)⟩ <|
   .take ⟨(some 37), none, .bin .add (.t 30) (.t 36)⟩ <|
   .take ⟨(some 38), none, .faddr 1 (.t 10)⟩ <|
   .take ⟨(some 39), none, .load false 1 (.t 38)⟩ <|
   .take ⟨(some 40), none, .mov (.t 9)⟩ <|
   .take ⟨(some 41), none, .iaddr 3 (.t 39) (.t 40)⟩ <|
   .take ⟨(some 42), none, .faddr 2 (.t 41)⟩ <|
   .take ⟨(some 43), none, .load false 1 (.t 42)⟩ <|
   .take ⟨(some 44), none, .bin .gtr (.t 37) (.t 43)⟩ <|
   .leaf) <|
  .cond [6, 9, 10] (.t 44)
   (.drw [6, 9, 10] 0 <|
    .take ⟨(some 45), none, .faddr 1 (.t 10)⟩ <|
    .take ⟨(some 46), none, .load false 1 (.t 45)⟩ <|
    .take ⟨(some 47), none, .mov (.t 9)⟩ <|
    .take ⟨(some 48), none, .mov (.t 2)⟩ <|
    .take ⟨(some 49), none, .faddr 1 (.t 10)⟩ <|
    .take ⟨(some 50), none, .load false 1 (.t 49)⟩ <|
    .take ⟨(some 51), none, .mov (.t 9)⟩ <|
    .take ⟨(some 52), none, .iaddr 3 (.t 50) (.t 51)⟩ <|
    .take ⟨(some 53), none, .faddr 1 (.t 52)⟩ <|
    .take ⟨(some 54), none, .load false 1 (.t 53)⟩ <|
    .take ⟨(some 55), none, .bin .add (.t 48) (.t 54)⟩ <|
    .free <|
    .take ⟨(some 56), none, .iaddr 3 (.t 46) (.t 47)⟩ <|
    .take ⟨(some 57), none, .faddr 2 (.t 56)⟩ <|
    .one ⟨none, none, .store 1 (.t 57) (.t 55)⟩ <|
    .leaf)
   (.skip)) <|
 .seq (.drw [6, 7, 8] 0 <|
  .take ⟨(some 58), none, .load true 2 (.t 10)⟩ <|
  .take ⟨(some 59), none, .faddr 1 (.t 10)⟩ <|
  .take ⟨(some 60), none, .load false 1 (.t 59)⟩ <|
  .take ⟨(some 61), none, .mov (.t 9)⟩ <|
  .take ⟨(some 62), none, .iaddr 3 (.t 60) (.t 61)⟩ <|
  .take ⟨(some 63), none, .faddr 1 (.t 62)⟩ <|
  .take ⟨(some 64), none, .load false 1 (.t 63)⟩ <|
  .one ⟨none, none, .store 2 (.t 6) (.t 58)⟩ <|
  .free <|
  .take ⟨(some 7), none, .mov (.t 64)⟩ <|
  .take ⟨(some 8), none, .mov (.c (.g (.int .i64 0)))⟩ <|
  .leaf) <|
 .ret⟩
def h20 : List (List Nat) := [[1, 2, 3, 6], [1, 2, 3, 6, 13], [1, 2, 3, 6], [6, 7, 8], [2, 3, 6, 9], [2, 3, 6, 9, 19], [2, 3, 6, 9], [6, 7, 8], [2, 3, 6, 9, 10], [2, 6, 9, 10], [2, 6, 9, 10, 44], [], [6, 9, 10], [6, 9, 10], [], [6, 7, 8], []]
theorem c20 : cFunc Try.prog 20 false h20 = some F20 := by kernel_rfl

/-- baton/batonref08.Same -/
def L21_0 : IC :=
 .seq (.seq (.reg [2, 3, 5, 24] [⟨(some 20), none, .mov (.t 5)⟩,
     ⟨(some 21), none, .faddr 1 (.t 2)⟩,
     ⟨(some 22), none, .load false 1 (.t 21)⟩,
     ⟨(some 23), none, .len (.t 22)⟩,
     ⟨(some 24), none, .bin .lss (.t 20) (.t 23)⟩]) <|
  .cond [2, 3, 5] (.t 24)
   (.skip)
   (.exit 0)) <|
 .seq (.block [2, 3, 5] 1 <|
  .seq (.drw [2, 3, 5, 37] 0 <|
   .take ⟨(some 27), none, .faddr 1 (.t 2)⟩ <|
   .take ⟨(some 28), none, .load false 1 (.t 27)⟩ <|
   .take ⟨(some 29), none, .mov (.t 5)⟩ <|
   .take ⟨(some 30), none, .iaddr 3 (.t 28) (.t 29)⟩ <|
   .take ⟨(some 31), none, .load true 3 (.t 30)⟩ <|
   .take ⟨(some 32), none, .faddr 1 (.t 3)⟩ <|
   .take ⟨(some 33), none, .load false 1 (.t 32)⟩ <|
   .take ⟨(some 34), none, .mov (.t 5)⟩ <|
   .take ⟨(some 35), none, .iaddr 3 (.t 33) (.t 34)⟩ <|
   .take ⟨(some 36), none, .load true 3 (.t 35)⟩ <|
   .take ⟨(some 37), none, .eqs true true [.i, .i, .i] (.t 31) (.t 36)⟩ <|
   .leaf) <|
  .cond [2, 3, 5] (.t 37)
   (.seq (.reg [4] [⟨(some 4), none, .mov (.c (.g (.bool false)))⟩]) <|
    .ret)
   (.skip)) <|
 .reg [2, 3, 5] [⟨(some 25), none, .mov (.t 5)⟩,
   ⟨(some 26), none, .bin .add (.t 25) (.c (.g (.int .i64 1)))⟩,
   ⟨(some 5), none, .mov (.t 26)⟩]
def F21 : IFunc := ⟨2, 38, [.tmp 4], false,
 .seq (.reg [2, 3] [⟨(some 2), none, .box (.t 0)⟩,
    ⟨(some 3), none, .box (.t 1)⟩,
    ⟨(some 4), none, .mov (.c (.g (.bool false)))⟩]) <|
 .seq (.seq (.reg [2, 3, 19] [⟨(some 6), none, .faddr 0 (.t 2)⟩,
     ⟨(some 7), none, .load false 1 (.t 6)⟩,
     ⟨(some 8), none, .faddr 0 (.t 3)⟩,
     ⟨(some 9), none, .load false 1 (.t 8)⟩,
     ⟨(some 10), none, .bin .neq (.t 7) (.t 9)⟩,
     ⟨(some 11), none, .mov (.t 10)⟩,
     ⟨(some 12), (some (11, false)), .faddr 1 (.t 2)⟩,
     ⟨(some 13), (some (11, false)), .load false 1 (.t 12)⟩,
     ⟨(some 14), (some (11, false)), .len (.t 13)⟩,
     ⟨(some 15), (some (11, false)), .faddr 1 (.t 3)⟩,
     ⟨(some 16), (some (11, false)), .load false 1 (.t 15)⟩,
     ⟨(some 17), (some (11, false)), .len (.t 16)⟩,
     ⟨(some 18), (some (11, false)), .bin .neq (.t 14) (.t 17)⟩,
     ⟨(some 19), none, .pick (.t 11) (.c (.g (.bool true))) (.t 18)⟩]) <|
  .cond [2, 3] (.t 19)
   (.seq (.reg [4] [⟨(some 4), none, .mov (.c (.g (.bool false)))⟩]) <|
    .ret)
   (.skip)) <|
 .seq (.seq (.reg [2, 3, 5] [⟨(some 5), none, .mov (.c (.g (.int .i64 0)))⟩]) <|
  .block [] 0 <|
  .loop [2, 3, 5] [] L21_0) <|
 .seq (.reg [4] [⟨(some 4), none, .mov (.c (.g (.bool true)))⟩]) <|
 .ret⟩
def h21 : List (List Nat) := [[2, 3], [2, 3, 19], [2, 3], [4], [2, 3, 5], [], [2, 3, 5], [2, 3, 5, 24], [2, 3, 5], [2, 3, 5], [2, 3, 5, 37], [], [2, 3, 5], [4], [2, 3, 5], [4]]
theorem c21 : cFunc Try.prog 21 false h21 = some F21 := by kernel_rfl

/-- baton/lease.May -/
def L22_0 : IC :=
 .seq (.reg [1, 3, 17, 18, 19, 20] [⟨(some 20), none, .bin .lss (.t 19) (.t 18)⟩]) <|
 .seq (.cond [1, 3, 17, 18, 19] (.t 20)
   (.skip)
   (.exit 0)) <|
 .seq (.block [1, 3, 17, 18, 19] 1 <|
  .seq (.reg [1, 3, 5, 17, 18, 19] [⟨(some 21), none, .iaddr 3 (.t 17) (.t 19)⟩,
     ⟨(some 22), none, .load true 3 (.t 21)⟩,
     ⟨(some 5), none, .alloc [.z (.int .i64 0), .z (.int .i64 0), .z (.int .i64 0)]⟩,
     ⟨none, none, .store 3 (.t 5) (.t 22)⟩]) <|
  .seq (.seq (.reg [1, 5, 17, 18, 19, 58] [⟨(some 23), none, .faddr 0 (.t 5)⟩,
      ⟨(some 24), none, .load false 1 (.t 23)⟩,
      ⟨(some 25), none, .mov (.t 3)⟩,
      ⟨(some 26), none, .bin .leq (.t 24) (.t 25)⟩,
      ⟨(some 27), none, .mov (.t 26)⟩,
      ⟨(some 28), (some (27, false)), .faddr 0 (.t 5)⟩,
      ⟨(some 29), (some (27, false)), .load false 1 (.t 28)⟩,
      ⟨(some 30), (some (27, false)), .faddr 0 (.t 1)⟩,
      ⟨(some 31), (some (27, false)), .load false 1 (.t 30)⟩,
      ⟨(some 32), (some (27, false)), .bin .gtr (.t 29) (.t 31)⟩,
      ⟨(some 33), none, .pick (.t 27) (.c (.g (.bool true))) (.t 32)⟩,
      ⟨(some 34), none, .mov (.t 33)⟩,
      ⟨(some 35), (some (34, false)), .faddr 1 (.t 5)⟩,
      ⟨(some 36), (some (34, false)), .load false 1 (.t 35)⟩,
      ⟨(some 37), (some (34, false)), .bin .lss (.t 36) (.c (.g (.int .i64 1)))⟩,
      ⟨(some 38), none, .pick (.t 34) (.c (.g (.bool true))) (.t 37)⟩,
      ⟨(some 39), none, .mov (.t 38)⟩,
      ⟨(some 40), (some (39, false)), .faddr 1 (.t 5)⟩,
      ⟨(some 41), (some (39, false)), .load false 1 (.t 40)⟩,
      ⟨(some 42), (some (39, false)), .bin .gtr (.t 41) (.c (.g (.int .i64 1000)))⟩,
      ⟨(some 43), none, .pick (.t 39) (.c (.g (.bool true))) (.t 42)⟩,
      ⟨(some 44), none, .mov (.t 43)⟩,
      ⟨(some 45), (some (44, false)), .faddr 2 (.t 5)⟩,
      ⟨(some 46), (some (44, false)), .load false 1 (.t 45)⟩,
      ⟨(some 47), (some (44, false)), .bin .lss (.t 46) (.c (.g (.int .i64 0)))⟩,
      ⟨(some 48), none, .pick (.t 44) (.c (.g (.bool true))) (.t 47)⟩,
      ⟨(some 49), none, .mov (.t 48)⟩,
      ⟨(some 50), (some (49, false)), .faddr 2 (.t 5)⟩,
      ⟨(some 51), (some (49, false)), .load false 1 (.t 50)⟩,
      ⟨(some 52), (some (49, false)), .faddr 1 (.t 5)⟩,
      ⟨(some 53), (some (49, false)), .load false 1 (.t 52)⟩,
      ⟨(some 54), (some (49, false)), .bin .sub (.t 51) (.t 53)⟩,
      ⟨(some 55), (some (49, false)), .mx (.c (.g (.int .i64 0))) [(.t 54)]⟩,
      ⟨(some 56), (some (49, false)), .call (.c (.g (.fn 60))) [(.t 55)]⟩,
      ⟨(some 57), (some (49, false)), .un .not (.t 56)⟩,
      ⟨(some 58), none, .pick (.t 49) (.c (.g (.bool true))) (.t 57)⟩]) <|
   .cond [1, 5, 17, 18, 19] (.t 58)
    (.seq (.reg [2] [⟨(some 2), none, .mov (.c (.g (.bool false)))⟩]) <|
     .ret)
    (.skip)) <|
  .reg [1, 3, 17, 18, 19] [⟨(some 59), none, .faddr 0 (.t 5)⟩,
    ⟨(some 60), none, .load false 1 (.t 59)⟩,
    ⟨(some 3), none, .mov (.t 60)⟩]) <|
 .reg [1, 3, 17, 18, 19] [⟨(some 61), none, .bin .add (.t 19) (.c (.g (.int .i64 1)))⟩,
   ⟨(some 19), none, .mov (.t 61)⟩]
def F22 : IFunc := ⟨1, 62, [.tmp 2], false,
 .seq (.reg [1] [⟨(some 1), none, .box (.t 0)⟩,
    ⟨(some 2), none, .mov (.c (.g (.bool false)))⟩]) <|
 .seq (.seq (.reg [1, 15] [⟨(some 6), none, .faddr 0 (.t 1)⟩,
     ⟨(some 7), none, .load false 1 (.t 6)⟩,
     ⟨(some 8), none, .call (.c (.g (.fn 60))) [(.t 7)]⟩,
     ⟨(some 9), none, .un .not (.t 8)⟩,
     ⟨(some 10), none, .mov (.t 9)⟩,
     ⟨(some 11), (some (10, false)), .faddr 1 (.t 1)⟩,
     ⟨(some 12), (some (10, false)), .load false 1 (.t 11)⟩,
     ⟨(some 13), (some (10, false)), .len (.t 12)⟩,
     ⟨(some 14), (some (10, false)), .bin .gtr (.t 13) (.c (.g (.int .i64 8)))⟩,
     ⟨(some 15), none, .pick (.t 10) (.c (.g (.bool true))) (.t 14)⟩]) <|
  .cond [1] (.t 15)
   (.seq (.reg [2] [⟨(some 2), none, .mov (.c (.g (.bool false)))⟩]) <|
    .ret)
   (.skip)) <|
 .seq (.reg [1, 3] [⟨(some 3), none, .mov (.c (.g (.int .i64 0)))⟩]) <|
 .seq (.seq (.reg [1, 3, 17, 18, 19] [⟨(some 16), none, .faddr 1 (.t 1)⟩,
     ⟨(some 17), none, .load false 1 (.t 16)⟩,
     ⟨(some 18), none, .len (.t 17)⟩,
     ⟨(some 19), none, .mov (.c (.g (.int .i64 0)))⟩]) <|
  .block [] 0 <|
  .loop [1, 3, 17, 18, 19] [] L22_0) <|
 .seq (.reg [2] [⟨(some 2), none, .mov (.c (.g (.bool true)))⟩]) <|
 .ret⟩
def h22 : List (List Nat) := [[1], [1, 15], [1], [2], [1, 3], [1, 3, 17, 18, 19], [], [1, 3, 17, 18, 19], [1, 3, 17, 18, 19, 20], [1, 3, 17, 18, 19], [1, 3, 17, 18, 19], [1, 3, 5, 17, 18, 19], [1, 5, 17, 18, 19, 58], [1, 5, 17, 18, 19], [2], [1, 3, 17, 18, 19], [1, 3, 17, 18, 19], [2]]
theorem c22 : cFunc Try.prog 22 false h22 = some F22 := by kernel_rfl

/-- baton/batonref08.May -/
def L23_0 : IC :=
 .seq (.seq (.reg [1, 3, 19] [⟨(some 15), none, .mov (.t 3)⟩,
     ⟨(some 16), none, .faddr 1 (.t 1)⟩,
     ⟨(some 17), none, .load false 1 (.t 16)⟩,
     ⟨(some 18), none, .len (.t 17)⟩,
     ⟨(some 19), none, .bin .lss (.t 15) (.t 18)⟩]) <|
  .cond [1, 3] (.t 19)
   (.skip)
   (.exit 0)) <|
 .seq (.block [1, 3] 1 <|
  .seq (.reg [1, 3, 4] [⟨(some 22), none, .faddr 1 (.t 1)⟩,
     ⟨(some 23), none, .load false 1 (.t 22)⟩,
     ⟨(some 24), none, .mov (.t 3)⟩,
     ⟨(some 25), none, .iaddr 3 (.t 23) (.t 24)⟩,
     ⟨(some 26), none, .load true 3 (.t 25)⟩,
     ⟨(some 4), none, .alloc [.z (.int .i64 0), .z (.int .i64 0), .z (.int .i64 0)]⟩,
     ⟨none, none, .store 3 (.t 4) (.t 26)⟩]) <|
  .seq (.drw [1, 3, 75] 0 <|
   .take ⟨(some 27), none, .faddr 0 (.t 4)⟩ <|
   .take ⟨(some 28), none, .load false 1 (.t 27)⟩ <|
   .take ⟨(some 29), none, .bin .lss (.t 28) (.c (.g (.int .i64 1)))⟩ <|
   .take ⟨(some 30), none, .mov (.t 29)⟩ <|
   .take ⟨(some 31), (some (30, false)), .faddr 0 (.t 4)⟩ <|
   .take ⟨(some 32), (some (30, false)), .load false 1 (.t 31)⟩ <|
   .take ⟨(some 33), (some (30, false)), .faddr 0 (.t 1)⟩ <|
   .take ⟨(some 34), (some (30, false)), .load false 1 (.t 33)⟩ <|
   .take ⟨(some 35), (some (30, false)), .bin .gtr (.t 32) (.t 34)⟩ <|
   .take ⟨(some 36), none, .pick (.t 30) (.c (.g (.bool true))) (.t 35)⟩ <|
   .take ⟨(some 37), none, .mov (.t 36)⟩ <|
   .take ⟨(some 38), (some (37, false)), .mov (.t 3)⟩ <|
   .take ⟨(some 39), (some (37, false)), .bin .gtr (.t 38) (.c (.g (.int .i64 0)))⟩ <|
   .take ⟨(some 40), (some (37, false)), .mov (.t 39)⟩ <|
   .take ⟨(some 41), (some (40, true)), .faddr 1 (.t 1)⟩ <|
   .take ⟨(some 42), (some (40, true)), .load false 1 (.t 41)⟩ <|
   .take ⟨(some 43), (some (40, true)), .mov (.t 3)⟩ <|
   .take ⟨(some 44), (some (40, true)), .bin .sub (.t 43) (.c (.g (.int .i64 1)))⟩ <|
   .take ⟨(some 45), (some (40, true)), .iaddr 3 (.t 42) (.t 44)⟩ <|
   .take ⟨(some 46), (some (40, true)), .faddr 0 (.t 45)⟩ <|
   .take ⟨(some 47), (some (40, true)), .load false 1 (.t 46)⟩ <|
   .take ⟨(some 48), (some (40, true)), .faddr 0 (.t 4)⟩ <|
   .take ⟨(some 49), (some (40, true)), .load false 1 (.t 48)⟩ <|
   .take ⟨(some 50), (some (40, true)), .bin .geq (.t 47) (.t 49)⟩ <|
   .take ⟨(some 51), (some (37, false)), .pick (.t 40) (.t 50) (.c (.g (.bool false)))⟩ <|
   .take ⟨(some 52), none, .pick (.t 37) (.c (.g (.bool true))) (.t 51)⟩ <|
   .take ⟨(some 53), none, .mov (.t 52)⟩ <|
   .take ⟨(some 54), (some (53, false)), .faddr 1 (.t 4)⟩ <|
   .take ⟨(some 55), (some (53, false)), .load false 1 (.t 54)⟩ <|
   .take ⟨(some 56), (some (53, false)), .bin .lss (.t 55) (.c (.g (.int .i64 1)))⟩ <|
   .take ⟨(some 57), none, .pick (.t 53) (.c (.g (.bool true))) (.t 56)⟩ <|
   .take ⟨(some 58), none, .mov (.t 57)⟩ <|
   .take ⟨(some 59), (some (58, false)), .faddr 1 (.t 4)⟩ <|
   .take ⟨(some 60), (some (58, false)), .load false 1 (.t 59)⟩ <|
   .take ⟨(some 61), (some (58, false)), .bin .gtr (.t 60) (.c (.g (.int .i64 1000)))⟩ <|
   .take ⟨(some 62), none, .pick (.t 58) (.c (.g (.bool true))) (.t 61)⟩ <|
   .take ⟨(some 63), none, .mov (.t 62)⟩ <|
   .take ⟨(some 64), (some (63, false)), .faddr 2 (.t 4)⟩ <|
   .take ⟨(some 65), (some (63, false)), .load false 1 (.t 64)⟩ <|
   .take ⟨(some 66), (some (63, false)), .bin .lss (.t 65) (.c (.g (.int .i64 0)))⟩ <|
   .take ⟨(some 67), none, .pick (.t 63) (.c (.g (.bool true))) (.t 66)⟩ <|
   .take ⟨(some 68), none, .mov (.t 67)⟩ <|
   .take ⟨(some 69), (some (68, false)), .faddr 2 (.t 4)⟩ <|
   .take ⟨(some 70), (some (68, false)), .load false 1 (.t 69)⟩ <|
   .take ⟨(some 71), (some (68, false)), .faddr 1 (.t 4)⟩ <|
   .take ⟨(some 72), (some (68, false)), .load false 1 (.t 71)⟩ <|
   .take ⟨(some 73), (some (68, false)), .bin .add (.c (.g (.int .i64 1099511627775))) (.t 72)⟩ <|
   .take ⟨(some 74), (some (68, false)), .bin .gtr (.t 70) (.t 73)⟩ <|
   .take ⟨(some 75), none, .pick (.t 68) (.c (.g (.bool true))) (.t 74)⟩ <|
   .leaf) <|
  .cond [1, 3] (.t 75)
   (.seq (.reg [2] [⟨(some 2), none, .mov (.c (.g (.bool false)))⟩]) <|
    .ret)
   (.skip)) <|
 .reg [1, 3] [⟨(some 20), none, .mov (.t 3)⟩,
   ⟨(some 21), none, .bin .add (.t 20) (.c (.g (.int .i64 1)))⟩,
   ⟨(some 3), none, .mov (.t 21)⟩]
def F23 : IFunc := ⟨1, 76, [.tmp 2], false,
 .seq (.reg [1] [⟨(some 1), none, .box (.t 0)⟩,
    ⟨(some 2), none, .mov (.c (.g (.bool false)))⟩]) <|
 .seq (.seq (.reg [1, 14] [⟨(some 5), none, .faddr 0 (.t 1)⟩,
     ⟨(some 6), none, .load false 1 (.t 5)⟩,
     ⟨(some 7), none, .call (.c (.g (.fn 63))) [(.t 6)]⟩,
     ⟨(some 8), none, .un .not (.t 7)⟩,
     ⟨(some 9), none, .mov (.t 8)⟩,
     ⟨(some 10), (some (9, false)), .faddr 1 (.t 1)⟩,
     ⟨(some 11), (some (9, false)), .load false 1 (.t 10)⟩,
     ⟨(some 12), (some (9, false)), .len (.t 11)⟩,
     ⟨(some 13), (some (9, false)), .bin .gtr (.t 12) (.c (.g (.int .i64 8)))⟩,
     ⟨(some 14), none, .pick (.t 9) (.c (.g (.bool true))) (.t 13)⟩]) <|
  .cond [1] (.t 14)
   (.seq (.reg [2] [⟨(some 2), none, .mov (.c (.g (.bool false)))⟩]) <|
    .ret)
   (.skip)) <|
 .seq (.seq (.reg [1, 3] [⟨(some 3), none, .mov (.c (.g (.int .i64 0)))⟩]) <|
  .block [] 0 <|
  .loop [1, 3] [] L23_0) <|
 .seq (.reg [2] [⟨(some 2), none, .mov (.c (.g (.bool true)))⟩]) <|
 .ret⟩
def h23 : List (List Nat) := [[1], [1, 14], [1], [2], [1, 3], [], [1, 3], [1, 3, 19], [1, 3], [1, 3], [1, 3, 4], [1, 3, 75], [], [1, 3], [2], [1, 3], [2]]
theorem c23 : cFunc Try.prog 23 false h23 = some F23 := by kernel_rfl

/-- baton/lease.Has -/
def F24 : IFunc := ⟨2, 9, [.tmp 4], false,
 .seq (.reg [1, 2] [⟨(some 2), none, .box (.t 0)⟩,
    ⟨(some 4), none, .mov (.c (.g (.bool false)))⟩]) <|
 .seq (.reg [4] [⟨(some 5), none, .load true 2 (.t 2)⟩,
    ⟨(some 6), none, .mov (.t 1)⟩,
    ⟨(some 7), none, .call (.c (.g (.fn 64))) [(.t 5), (.t 6)]⟩,
    ⟨(some 8), none, .bin .geq (.t 7) (.c (.g (.int .i64 0)))⟩,
    ⟨(some 4), none, .mov (.t 8)⟩]) <|
 .ret⟩
def h24 : List (List Nat) := [[1, 2], [4]]
theorem c24 : cFunc Try.prog 24 false h24 = some F24 := by kernel_rfl

/-- baton/batonref08.Has -/
def F25 : IFunc := ⟨2, 9, [.tmp 4], false,
 .seq (.reg [1, 2] [⟨(some 2), none, .box (.t 0)⟩,
    ⟨(some 4), none, .mov (.c (.g (.bool false)))⟩]) <|
 .seq (.reg [4] [⟨(some 5), none, .load true 2 (.t 2)⟩,
    ⟨(some 6), none, .mov (.t 1)⟩,
    ⟨(some 7), none, .call (.c (.g (.fn 66))) [(.t 5), (.t 6)]⟩,
    ⟨(some 8), none, .bin .geq (.t 7) (.c (.g (.int .i64 0)))⟩,
    ⟨(some 4), none, .mov (.t 8)⟩]) <|
 .ret⟩
def h25 : List (List Nat) := [[1, 2], [4]]
theorem c25 : cFunc Try.prog 25 false h25 = some F25 := by kernel_rfl

/-- baton/batonref03.Few -/
def L26_0 : IC :=
 .seq (.seq (.reg [0, 5, 13] [⟨(some 10), none, .mov (.t 5)⟩,
     ⟨(some 11), none, .mov (.t 0)⟩,
     ⟨(some 12), none, .len (.t 11)⟩,
     ⟨(some 13), none, .bin .lss (.t 10) (.t 12)⟩]) <|
  .cond [0, 5] (.t 13)
   (.skip)
   (.exit 0)) <|
 .seq (.block [0, 5] 1 <|
  .seq (.reg [0, 5, 31] [⟨(some 16), none, .mov (.t 0)⟩,
     ⟨(some 17), none, .mov (.t 5)⟩,
     ⟨(some 18), none, .iaddr 6 (.t 16) (.t 17)⟩,
     ⟨(some 19), none, .faddr 0 (.t 18)⟩,
     ⟨(some 20), none, .load false 1 (.t 19)⟩,
     ⟨(some 21), none, .lenS (.t 20)⟩,
     ⟨(some 22), none, .bin .gtr (.t 21) (.c (.g (.int .i64 60)))⟩,
     ⟨(some 23), none, .mov (.t 22)⟩,
     ⟨(some 24), (some (23, false)), .mov (.t 0)⟩,
     ⟨(some 25), (some (23, false)), .mov (.t 5)⟩,
     ⟨(some 26), (some (23, false)), .iaddr 6 (.t 24) (.t 25)⟩,
     ⟨(some 27), (some (23, false)), .faddr 1 (.t 26)⟩,
     ⟨(some 28), (some (23, false)), .load false 1 (.t 27)⟩,
     ⟨(some 29), (some (23, false)), .lenS (.t 28)⟩,
     ⟨(some 30), (some (23, false)), .bin .gtr (.t 29) (.c (.g (.int .i64 60)))⟩,
     ⟨(some 31), none, .pick (.t 23) (.c (.g (.bool true))) (.t 30)⟩]) <|
  .cond [0, 5] (.t 31)
   (.seq (.reg [4] [⟨(some 4), none, .mov (.c (.g (.bool false)))⟩]) <|
    .ret)
   (.skip)) <|
 .reg [0, 5] [⟨(some 14), none, .mov (.t 5)⟩,
   ⟨(some 15), none, .bin .add (.t 14) (.c (.g (.int .i64 1)))⟩,
   ⟨(some 5), none, .mov (.t 15)⟩]
def F26 : IFunc := ⟨2, 32, [.tmp 4], false,
 .seq (.reg [0, 1] [⟨(some 4), none, .mov (.c (.g (.bool false)))⟩]) <|
 .seq (.seq (.reg [0, 9] [⟨(some 6), none, .mov (.t 0)⟩,
     ⟨(some 7), none, .len (.t 6)⟩,
     ⟨(some 8), none, .mov (.t 1)⟩,
     ⟨(some 9), none, .bin .gtr (.t 7) (.t 8)⟩]) <|
  .cond [0] (.t 9)
   (.seq (.reg [4] [⟨(some 4), none, .mov (.c (.g (.bool false)))⟩]) <|
    .ret)
   (.skip)) <|
 .seq (.seq (.reg [0, 5] [⟨(some 5), none, .mov (.c (.g (.int .i64 0)))⟩]) <|
  .block [] 0 <|
  .loop [0, 5] [] L26_0) <|
 .seq (.reg [4] [⟨(some 4), none, .mov (.c (.g (.bool true)))⟩]) <|
 .ret⟩
def h26 : List (List Nat) := [[0, 1], [0, 9], [0], [4], [0, 5], [], [0, 5], [0, 5, 13], [0, 5], [0, 5], [0, 5, 31], [0, 5], [4], [0, 5], [4]]
theorem c26 : cFunc Try.prog 26 false h26 = some F26 := by kernel_rfl

/-- baton/lease.End -/
def F27 : IFunc := ⟨2, 26, [.cell 4 true 2, .tmp 5], false,
 .seq (.reg [1, 2, 4] [⟨(some 2), none, .box (.t 0)⟩,
    ⟨(some 4), none, .alloc [.z (.int .i64 0), .s 3]⟩,
    ⟨(some 5), none, .mov (.c (.g (.int .i64 0)))⟩]) <|
 .seq (.reg [2, 4, 6] [⟨(some 7), none, .load true 2 (.t 2)⟩,
    ⟨(some 8), none, .mov (.t 1)⟩,
    ⟨(some 9), none, .call (.c (.g (.fn 64))) [(.t 7), (.t 8)]⟩,
    ⟨(some 6), none, .mov (.t 9)⟩]) <|
 .seq (.seq (.reg [2, 4, 6, 11] [⟨(some 10), none, .mov (.t 6)⟩,
     ⟨(some 11), none, .bin .lss (.t 10) (.c (.g (.int .i64 0)))⟩]) <|
  .cond [2, 4, 6] (.t 11)
   (.seq (.reg [4, 5] [⟨(some 12), none, .load true 2 (.t 2)⟩,
       ⟨none, none, .store 2 (.t 4) (.t 12)⟩,
       ⟨(some 5), none, .mov (.c (.g (.int .i64 6)))⟩]) <|
    .ret)
   (.skip)) <|
 .seq (.drw [2, 4] 0 <|
  .take ⟨(some 13), none, .faddr 1 (.t 2)⟩ <|
  .take ⟨(some 14), none, .load false 1 (.t 13)⟩ <|
  .take ⟨(some 15), none, .mov (.t 6)⟩ <|
  .take ⟨(some 16), none, .slc 3 (.t 14) none (some (.t 15))⟩ <|
  .take ⟨(some 17), none, .faddr 1 (.t 2)⟩ <|
  .take ⟨(some 18), none, .load false 1 (.t 17)⟩ <|
  .take ⟨(some 19), none, .mov (.t 6)⟩ <|
  .take ⟨(some 20), none, .bin .add (.t 19) (.c (.g (.int .i64 1)))⟩ <|
  .take ⟨(some 21), none, .slc 3 (.t 18) (some (.t 20)) none⟩ <|
  .one ⟨(some 22), none, .bslice 1 2 [.nsl] [(0, 1, (.t 16)), (1, 1, (.t 21))]⟩ <|
  .one ⟨(some 23), none, .call (.c (.g (.fn 62))) [(.t 22)]⟩ <|
  .free <|
  .take ⟨(some 24), none, .faddr 1 (.t 2)⟩ <|
  .one ⟨none, none, .store 1 (.t 24) (.t 23)⟩ <|
  .leaf) <|
 .seq (.reg [4, 5] [⟨(some 25), none, .load true 2 (.t 2)⟩,
    ⟨none, none, .store 2 (.t 4) (.t 25)⟩,
    ⟨(some 5), none, .mov (.c (.g (.int .i64 0)))⟩]) <|
 .ret⟩
def h27 : List (List Nat) := [[1, 2, 4], [2, 4, 6], [2, 4, 6, 11], [2, 4, 6], [4, 5], [2, 4], [], [4, 5]]
theorem c27 : cFunc Try.prog 27 false h27 = some F27 := by kernel_rfl

/-- baton/batonref08.End -/
def F28 : IFunc := ⟨2, 35, [.cell 4 true 2, .tmp 5], false,
 .seq (.reg [1, 2, 4] [⟨(some 2), none, .box (.t 0)⟩,
    ⟨(some 4), none, .alloc [.z (.int .i64 0), .s 3]⟩,
    ⟨(some 5), none, .mov (.c (.g (.int .i64 0)))⟩]) <|
 .seq (.reg [2, 4, 6] [⟨(some 8), none, .load true 2 (.t 2)⟩,
    ⟨(some 9), none, .mov (.t 1)⟩,
    ⟨(some 10), none, .call (.c (.g (.fn 66))) [(.t 8), (.t 9)]⟩,
    ⟨(some 6), none, .mov (.t 10)⟩]) <|
 .seq (.seq (.reg [2, 4, 6, 12] [⟨(some 11), none, .mov (.t 6)⟩,
     ⟨(some 12), none, .bin .lss (.t 11) (.c (.g (.int .i64 0)))⟩]) <|
  .cond [2, 4, 6] (.t 12)
   (.seq (.reg [4, 5] [⟨(some 13), none, .load true 2 (.t 2)⟩,
       ⟨none, none, .store 2 (.t 4) (.t 13)⟩,
       ⟨(some 5), none, .mov (.c (.g (.int .i64 6)))⟩]) <|
    .ret)
   (.skip)) <|
 .seq (.reg [2, 4, 6, 7] [⟨(some 14), none, .faddr 0 (.t 2)⟩,
    ⟨(some 15), none, .load false 1 (.t 14)⟩,
    ⟨(some 16), none, .build [.g (.int .i64 0), .g (.nsl)] [(0, 1, (.t 15))]⟩,
    ⟨(some 7), none, .alloc [.z (.int .i64 0), .s 3]⟩,
    ⟨none, none, .store 2 (.t 7) (.t 16)⟩]) <|
 .seq (.drw [2, 4, 6, 7] 0 <|
  .take ⟨(some 17), none, .faddr 1 (.t 7)⟩ <|
  .take ⟨(some 18), none, .load false 1 (.t 17)⟩ <|
  .take ⟨(some 19), none, .faddr 1 (.t 2)⟩ <|
  .take ⟨(some 20), none, .load false 1 (.t 19)⟩ <|
  .take ⟨(some 21), none, .mov (.t 6)⟩ <|
  .take ⟨(some 22), none, .slc 3 (.t 20) none (some (.t 21))⟩ <|
  .one ⟨(some 23), none, .app 3 24 (.t 18) (.t 22)⟩ <|
  .free <|
  .take ⟨(some 24), none, .faddr 1 (.t 7)⟩ <|
  .one ⟨none, none, .store 1 (.t 24) (.t 23)⟩ <|
  .leaf) <|
 .seq (.drw [4, 7] 0 <|
  .take ⟨(some 25), none, .faddr 1 (.t 7)⟩ <|
  .take ⟨(some 26), none, .load false 1 (.t 25)⟩ <|
  .take ⟨(some 27), none, .faddr 1 (.t 2)⟩ <|
  .take ⟨(some 28), none, .load false 1 (.t 27)⟩ <|
  .take ⟨(some 29), none, .mov (.t 6)⟩ <|
  .take ⟨(some 30), none, .bin .add (.t 29) (.c (.g (.int .i64 1)))⟩ <|
  .take ⟨(some 31), none, .slc 3 (.t 28) (some (.t 30)) none⟩ <|
  .one ⟨(some 32), none, .app 3 24 (.t 26) (.t 31)⟩ <|
  .free <|
  .take ⟨(some 33), none, .faddr 1 (.t 7)⟩ <|
  .one ⟨none, none, .store 1 (.t 33) (.t 32)⟩ <|
  .leaf) <|
 .seq (.reg [4, 5] [⟨(some 34), none, .load true 2 (.t 7)⟩,
    ⟨none, none, .store 2 (.t 4) (.t 34)⟩,
    ⟨(some 5), none, .mov (.c (.g (.int .i64 0)))⟩]) <|
 .ret⟩
def h28 : List (List Nat) := [[1, 2, 4], [2, 4, 6], [2, 4, 6, 12], [2, 4, 6], [4, 5], [2, 4, 6, 7], [2, 4, 6, 7], [], [4, 7], [], [4, 5]]
theorem c28 : cFunc Try.prog 28 false h28 = some F28 := by kernel_rfl

/-- baton/batonref08.Ints -/
def L29_0 : IC :=
 .seq (.seq (.reg [0, 1, 5, 14] [⟨(some 11), none, .mov (.t 5)⟩,
     ⟨(some 12), none, .mov (.t 0)⟩,
     ⟨(some 13), none, .len (.t 12)⟩,
     ⟨(some 14), none, .bin .lss (.t 11) (.t 13)⟩]) <|
  .cond [0, 1, 5] (.t 14)
   (.skip)
   (.exit 0)) <|
 .seq (.block [0, 1, 5] 1 <|
  .seq (.drw [0, 1, 5, 25] 0 <|
   .take ⟨(some 17), none, .mov (.t 0)⟩ <|
   .take ⟨(some 18), none, .mov (.t 5)⟩ <|
   .take ⟨(some 19), none, .iaddr 1 (.t 17) (.t 18)⟩ <|
   .take ⟨(some 20), none, .load false 1 (.t 19)⟩ <|
   .take ⟨(some 21), none, .mov (.t 1)⟩ <|
   .take ⟨(some 22), none, .mov (.t 5)⟩ <|
   .take ⟨(some 23), none, .iaddr 1 (.t 21) (.t 22)⟩ <|
   .take ⟨(some 24), none, .load false 1 (.t 23)⟩ <|
   .free <|
   .take ⟨(some 25), none, .bin .neq (.t 20) (.t 24)⟩ <|
   .leaf) <|
  .cond [0, 1, 5] (.t 25)
   (.seq (.reg [4] [⟨(some 4), none, .mov (.c (.g (.bool false)))⟩]) <|
    .ret)
   (.skip)) <|
 .reg [0, 1, 5] [⟨(some 15), none, .mov (.t 5)⟩,
   ⟨(some 16), none, .bin .add (.t 15) (.c (.g (.int .i64 1)))⟩,
   ⟨(some 5), none, .mov (.t 16)⟩]
def F29 : IFunc := ⟨2, 26, [.tmp 4], false,
 .seq (.reg [0, 1] [⟨(some 4), none, .mov (.c (.g (.bool false)))⟩]) <|
 .seq (.seq (.reg [0, 1, 10] [⟨(some 6), none, .mov (.t 0)⟩,
     ⟨(some 7), none, .len (.t 6)⟩,
     ⟨(some 8), none, .mov (.t 1)⟩,
     ⟨(some 9), none, .len (.t 8)⟩,
     ⟨(some 10), none, .bin .neq (.t 7) (.t 9)⟩]) <|
  .cond [0, 1] (.t 10)
   (.seq (.reg [4] [⟨(some 4), none, .mov (.c (.g (.bool false)))⟩]) <|
    .ret)
   (.skip)) <|
 .seq (.seq (.reg [0, 1, 5] [⟨(some 5), none, .mov (.c (.g (.int .i64 0)))⟩]) <|
  .block [] 0 <|
  .loop [0, 1, 5] [] L29_0) <|
 .seq (.reg [4] [⟨(some 4), none, .mov (.c (.g (.bool true)))⟩]) <|
 .ret⟩
def h29 : List (List Nat) := [[0, 1], [0, 1, 10], [0, 1], [4], [0, 1, 5], [], [0, 1, 5], [0, 1, 5, 14], [0, 1, 5], [0, 1, 5], [0, 1, 5, 25], [], [0, 1, 5], [4], [0, 1, 5], [4]]
theorem c29 : cFunc Try.prog 29 false h29 = some F29 := by kernel_rfl

/-- baton/lease.Due -/
def L30_0 : IC :=
 .seq (.reg [1, 5, 9, 10, 11, 12] [⟨(some 12), none, .bin .lss (.t 11) (.t 10)⟩]) <|
 .seq (.cond [1, 5, 9, 10, 11] (.t 12)
   (.skip)
   (.exit 0)) <|
 .seq (.block [1, 5, 9, 10, 11] 1 <|
  .seq (.reg [1, 5, 7, 9, 10, 11] [⟨(some 13), none, .iaddr 3 (.t 9) (.t 11)⟩,
     ⟨(some 14), none, .load true 3 (.t 13)⟩,
     ⟨(some 7), none, .alloc [.z (.int .i64 0), .z (.int .i64 0), .z (.int .i64 0)]⟩,
     ⟨none, none, .store 3 (.t 7) (.t 14)⟩]) <|
  .seq (.reg [1, 5, 7, 9, 10, 11, 18] [⟨(some 15), none, .faddr 2 (.t 7)⟩,
     ⟨(some 16), none, .load false 1 (.t 15)⟩,
     ⟨(some 17), none, .mov (.t 1)⟩,
     ⟨(some 18), none, .bin .leq (.t 16) (.t 17)⟩]) <|
  .cond [1, 5, 9, 10, 11] (.t 18)
   (.reg [1, 5, 9, 10, 11] [⟨(some 19), none, .mov (.t 5)⟩,
      ⟨(some 20), none, .faddr 0 (.t 7)⟩,
      ⟨(some 21), none, .load false 1 (.t 20)⟩,
      ⟨(some 22), none, .bslice 1 1 [.int .i64 0] [(0, 1, (.t 21))]⟩,
      ⟨(some 23), none, .app 1 8 (.t 19) (.t 22)⟩,
      ⟨(some 5), none, .mov (.t 23)⟩])
   (.skip)) <|
 .reg [1, 5, 9, 10, 11] [⟨(some 24), none, .bin .add (.t 11) (.c (.g (.int .i64 1)))⟩,
   ⟨(some 11), none, .mov (.t 24)⟩]
def F30 : IFunc := ⟨2, 26, [.tmp 4], false,
 .seq (.reg [1, 2] [⟨(some 2), none, .box (.t 0)⟩,
    ⟨(some 4), none, .nres 1⟩]) <|
 .seq (.reg [1, 2, 5] [⟨(some 5), none, .nres 1⟩]) <|
 .seq (.seq (.reg [1, 5, 9, 10, 11] [⟨(some 8), none, .faddr 1 (.t 2)⟩,
     ⟨(some 9), none, .load false 1 (.t 8)⟩,
     ⟨(some 10), none, .len (.t 9)⟩,
     ⟨(some 11), none, .mov (.c (.g (.int .i64 0)))⟩]) <|
  .block [5] 0 <|
  .loop [1, 5, 9, 10, 11] [] L30_0) <|
 .seq (.reg [4] [⟨(some 25), none, .mov (.t 5)⟩,
    ⟨(some 4), none, .mov (.t 25)⟩]) <|
 .ret⟩
def h30 : List (List Nat) := [[1, 2], [1, 2, 5], [1, 5, 9, 10, 11], [5], [1, 5, 9, 10, 11], [1, 5, 9, 10, 11, 12], [1, 5, 9, 10, 11], [1, 5, 9, 10, 11], [1, 5, 7, 9, 10, 11], [1, 5, 7, 9, 10, 11, 18], [1, 5, 9, 10, 11], [1, 5, 9, 10, 11], [1, 5, 9, 10, 11], [4]]
theorem c30 : cFunc Try.prog 30 false h30 = some F30 := by kernel_rfl

/-- baton/batonref08.Due -/
def L31_0 : IC :=
 .seq (.seq (.reg [1, 2, 5, 6, 11] [⟨(some 7), none, .mov (.t 6)⟩,
     ⟨(some 8), none, .faddr 1 (.t 2)⟩,
     ⟨(some 9), none, .load false 1 (.t 8)⟩,
     ⟨(some 10), none, .len (.t 9)⟩,
     ⟨(some 11), none, .bin .lss (.t 7) (.t 10)⟩]) <|
  .cond [1, 2, 5, 6] (.t 11)
   (.skip)
   (.exit 0)) <|
 .seq (.block [1, 2, 5, 6] 1 <|
  .seq (.reg [1, 2, 5, 6, 21] [⟨(some 14), none, .faddr 1 (.t 2)⟩,
     ⟨(some 15), none, .load false 1 (.t 14)⟩,
     ⟨(some 16), none, .mov (.t 6)⟩,
     ⟨(some 17), none, .iaddr 3 (.t 15) (.t 16)⟩,
     ⟨(some 18), none, .faddr 2 (.t 17)⟩,
     ⟨(some 19), none, .load false 1 (.t 18)⟩,
     ⟨(some 20), none, .mov (.t 1)⟩,
     ⟨(some 21), none, .bin .leq (.t 19) (.t 20)⟩]) <|
  .cond [1, 2, 5, 6] (.t 21)
   (.reg [1, 2, 5, 6] [⟨(some 22), none, .mov (.t 5)⟩,
      ⟨(some 23), none, .faddr 1 (.t 2)⟩,
      ⟨(some 24), none, .load false 1 (.t 23)⟩,
      ⟨(some 25), none, .mov (.t 6)⟩,
      ⟨(some 26), none, .iaddr 3 (.t 24) (.t 25)⟩,
      ⟨(some 27), none, .faddr 0 (.t 26)⟩,
      ⟨(some 28), none, .load false 1 (.t 27)⟩,
      ⟨(some 29), none, .bslice 1 1 [.int .i64 0] [(0, 1, (.t 28))]⟩,
      ⟨(some 30), none, .app 1 8 (.t 22) (.t 29)⟩,
      ⟨(some 5), none, .mov (.t 30)⟩])
   (.skip)) <|
 .reg [1, 2, 5, 6] [⟨(some 12), none, .mov (.t 6)⟩,
   ⟨(some 13), none, .bin .add (.t 12) (.c (.g (.int .i64 1)))⟩,
   ⟨(some 6), none, .mov (.t 13)⟩]
def F31 : IFunc := ⟨2, 32, [.tmp 4], false,
 .seq (.reg [1, 2] [⟨(some 2), none, .box (.t 0)⟩,
    ⟨(some 4), none, .nres 1⟩]) <|
 .seq (.reg [1, 2, 5] [⟨(some 5), none, .nres 1⟩]) <|
 .seq (.seq (.reg [1, 2, 5, 6] [⟨(some 6), none, .mov (.c (.g (.int .i64 0)))⟩]) <|
  .block [5] 0 <|
  .loop [1, 2, 5, 6] [] L31_0) <|
 .seq (.reg [4] [⟨(some 31), none, .mov (.t 5)⟩,
    ⟨(some 4), none, .mov (.t 31)⟩]) <|
 .ret⟩
def h31 : List (List Nat) := [[1, 2], [1, 2, 5], [1, 2, 5, 6], [5], [1, 2, 5, 6], [1, 2, 5, 6, 11], [1, 2, 5, 6], [1, 2, 5, 6], [1, 2, 5, 6, 21], [1, 2, 5, 6], [1, 2, 5, 6], [1, 2, 5, 6], [4]]
theorem c31 : cFunc Try.prog 31 false h31 = some F31 := by kernel_rfl

/-- baton/batonref03.Muts -/
def L32_0 : IC :=
 .seq (.seq (.reg [0, 1, 5, 14] [⟨(some 11), none, .mov (.t 5)⟩,
     ⟨(some 12), none, .mov (.t 0)⟩,
     ⟨(some 13), none, .len (.t 12)⟩,
     ⟨(some 14), none, .bin .lss (.t 11) (.t 13)⟩]) <|
  .cond [0, 1, 5] (.t 14)
   (.skip)
   (.exit 0)) <|
 .seq (.block [0, 1, 5] 1 <|
  .seq (.drw [0, 1, 5, 25] 0 <|
   .take ⟨(some 17), none, .mov (.t 0)⟩ <|
   .take ⟨(some 18), none, .mov (.t 5)⟩ <|
   .take ⟨(some 19), none, .iaddr 4 (.t 17) (.t 18)⟩ <|
   .take ⟨(some 20), none, .load true 4 (.t 19)⟩ <|
   .take ⟨(some 21), none, .mov (.t 1)⟩ <|
   .take ⟨(some 22), none, .mov (.t 5)⟩ <|
   .take ⟨(some 23), none, .iaddr 4 (.t 21) (.t 22)⟩ <|
   .take ⟨(some 24), none, .load true 4 (.t 23)⟩ <|
   .free <|
   .take ⟨(some 25), none, .eqs true true [.b, .s, .s, .i] (.t 20) (.t 24)⟩ <|
   .leaf) <|
  .cond [0, 1, 5] (.t 25)
   (.seq (.reg [4] [⟨(some 4), none, .mov (.c (.g (.bool false)))⟩]) <|
    .ret)
   (.skip)) <|
 .reg [0, 1, 5] [⟨(some 15), none, .mov (.t 5)⟩,
   ⟨(some 16), none, .bin .add (.t 15) (.c (.g (.int .i64 1)))⟩,
   ⟨(some 5), none, .mov (.t 16)⟩]
def F32 : IFunc := ⟨2, 26, [.tmp 4], false,
 .seq (.reg [0, 1] [⟨(some 4), none, .mov (.c (.g (.bool false)))⟩]) <|
 .seq (.seq (.reg [0, 1, 10] [⟨(some 6), none, .mov (.t 0)⟩,
     ⟨(some 7), none, .len (.t 6)⟩,
     ⟨(some 8), none, .mov (.t 1)⟩,
     ⟨(some 9), none, .len (.t 8)⟩,
     ⟨(some 10), none, .bin .neq (.t 7) (.t 9)⟩]) <|
  .cond [0, 1] (.t 10)
   (.seq (.reg [4] [⟨(some 4), none, .mov (.c (.g (.bool false)))⟩]) <|
    .ret)
   (.skip)) <|
 .seq (.seq (.reg [0, 1, 5] [⟨(some 5), none, .mov (.c (.g (.int .i64 0)))⟩]) <|
  .block [] 0 <|
  .loop [0, 1, 5] [] L32_0) <|
 .seq (.reg [4] [⟨(some 4), none, .mov (.c (.g (.bool true)))⟩]) <|
 .ret⟩
def h32 : List (List Nat) := [[0, 1], [0, 1, 10], [0, 1], [4], [0, 1, 5], [], [0, 1, 5], [0, 1, 5, 14], [0, 1, 5], [0, 1, 5], [0, 1, 5, 25], [], [0, 1, 5], [4], [0, 1, 5], [4]]
theorem c32 : cFunc Try.prog 32 false h32 = some F32 := by kernel_rfl

/-- baton/lease.Drops -/
def L33_0 : IC :=
 .seq (.reg [1, 5, 10, 11, 12, 13] [⟨(some 13), none, .bin .lss (.t 12) (.t 11)⟩]) <|
 .seq (.cond [1, 5, 10, 11, 12] (.t 13)
   (.skip)
   (.exit 0)) <|
 .seq (.block [1, 5, 10, 11, 12] 1 <|
  .seq (.reg [1, 5, 7, 10, 11, 12] [⟨(some 14), none, .iaddr 6 (.t 10) (.t 12)⟩,
     ⟨(some 15), none, .load true 6 (.t 14)⟩,
     ⟨(some 7), none, .alloc [.z (.str []), .z (.str []), .z (.int .i64 0), .z (.int .i64 0), .z (.int .i64 0), .z (.int .i64 0)]⟩,
     ⟨none, none, .store 6 (.t 7) (.t 15)⟩]) <|
  .seq (.reg [1, 5, 7, 10, 11, 12, 19] [⟨(some 16), none, .faddr 5 (.t 7)⟩,
     ⟨(some 17), none, .load false 1 (.t 16)⟩,
     ⟨(some 18), none, .mov (.t 1)⟩,
     ⟨(some 19), none, .bin .eql (.t 17) (.t 18)⟩]) <|
  .cond [1, 5, 10, 11, 12] (.t 19)
   (.reg [1, 5, 10, 11, 12] [⟨(some 20), none, .mov (.t 5)⟩,
      ⟨(some 21), none, .faddr 0 (.t 7)⟩,
      ⟨(some 22), none, .load false 1 (.t 21)⟩,
      ⟨(some 23), none, .build [.g (.bool false), .g (.str []), .g (.str []), .g (.int .i64 0)] [(0, 1, (.c (.g (.bool true)))), (1, 1, (.t 22))]⟩,
      ⟨(some 24), none, .bslice 4 1 [.bool false, .str [], .str [], .int .i64 0] [(0, 4, (.t 23))]⟩,
      ⟨(some 25), none, .app 4 48 (.t 20) (.t 24)⟩,
      ⟨(some 5), none, .mov (.t 25)⟩])
   (.skip)) <|
 .reg [1, 5, 10, 11, 12] [⟨(some 26), none, .bin .add (.t 12) (.c (.g (.int .i64 1)))⟩,
   ⟨(some 12), none, .mov (.t 26)⟩]
def F33 : IFunc := ⟨2, 28, [.tmp 4], false,
 .seq (.reg [0, 1] [⟨(some 4), none, .nres 4⟩]) <|
 .seq (.seq (.reg [0, 1, 9] [⟨(some 8), none, .mov (.t 1)⟩,
     ⟨(some 9), none, .bin .eql (.t 8) (.c (.g (.int .i64 0)))⟩]) <|
  .cond [0, 1] (.t 9)
   (.seq (.reg [4] [⟨(some 4), none, .nres 4⟩]) <|
    .ret)
   (.skip)) <|
 .seq (.reg [0, 1, 5] [⟨(some 5), none, .nres 4⟩]) <|
 .seq (.seq (.reg [1, 5, 10, 11, 12] [⟨(some 10), none, .mov (.t 0)⟩,
     ⟨(some 11), none, .len (.t 10)⟩,
     ⟨(some 12), none, .mov (.c (.g (.int .i64 0)))⟩]) <|
  .block [5] 0 <|
  .loop [1, 5, 10, 11, 12] [] L33_0) <|
 .seq (.reg [4] [⟨(some 27), none, .mov (.t 5)⟩,
    ⟨(some 4), none, .mov (.t 27)⟩]) <|
 .ret⟩
def h33 : List (List Nat) := [[0, 1], [0, 1, 9], [0, 1], [4], [0, 1, 5], [1, 5, 10, 11, 12], [5], [1, 5, 10, 11, 12], [1, 5, 10, 11, 12, 13], [1, 5, 10, 11, 12], [1, 5, 10, 11, 12], [1, 5, 7, 10, 11, 12], [1, 5, 7, 10, 11, 12, 19], [1, 5, 10, 11, 12], [1, 5, 10, 11, 12], [1, 5, 10, 11, 12], [4]]
theorem c33 : cFunc Try.prog 33 false h33 = some F33 := by kernel_rfl

/-- baton/batonref08.Drops -/
def L34_0 : IC :=
 .seq (.seq (.reg [0, 1, 5, 6, 10] [⟨(some 7), none, .mov (.t 6)⟩,
     ⟨(some 8), none, .mov (.t 0)⟩,
     ⟨(some 9), none, .len (.t 8)⟩,
     ⟨(some 10), none, .bin .lss (.t 7) (.t 9)⟩]) <|
  .cond [0, 1, 5, 6] (.t 10)
   (.skip)
   (.exit 0)) <|
 .seq (.block [0, 1, 5, 6] 1 <|
  .seq (.reg [0, 1, 5, 6, 23] [⟨(some 13), none, .mov (.t 1)⟩,
     ⟨(some 14), none, .bin .neq (.t 13) (.c (.g (.int .i64 0)))⟩,
     ⟨(some 15), none, .mov (.t 14)⟩,
     ⟨(some 16), (some (15, true)), .mov (.t 0)⟩,
     ⟨(some 17), (some (15, true)), .mov (.t 6)⟩,
     ⟨(some 18), (some (15, true)), .iaddr 6 (.t 16) (.t 17)⟩,
     ⟨(some 19), (some (15, true)), .faddr 5 (.t 18)⟩,
     ⟨(some 20), (some (15, true)), .load false 1 (.t 19)⟩,
     ⟨(some 21), (some (15, true)), .mov (.t 1)⟩,
     ⟨(some 22), (some (15, true)), .bin .eql (.t 20) (.t 21)⟩,
     ⟨(some 23), none, .pick (.t 15) (.t 22) (.c (.g (.bool false)))⟩]) <|
  .cond [0, 1, 5, 6] (.t 23)
   (.reg [0, 1, 5, 6] [⟨(some 24), none, .mov (.t 5)⟩,
      ⟨(some 25), none, .mov (.t 0)⟩,
      ⟨(some 26), none, .mov (.t 6)⟩,
      ⟨(some 27), none, .iaddr 6 (.t 25) (.t 26)⟩,
      ⟨(some 28), none, .faddr 0 (.t 27)⟩,
      ⟨(some 29), none, .load false 1 (.t 28)⟩,
      ⟨(some 30), none, .build [.g (.bool false), .g (.str []), .g (.str []), .g (.int .i64 0)] [(0, 1, (.c (.g (.bool true)))), (1, 1, (.t 29))]⟩,
      ⟨(some 31), none, .bslice 4 1 [.bool false, .str [], .str [], .int .i64 0] [(0, 4, (.t 30))]⟩,
      ⟨(some 32), none, .app 4 48 (.t 24) (.t 31)⟩,
      ⟨(some 5), none, .mov (.t 32)⟩])
   (.skip)) <|
 .reg [0, 1, 5, 6] [⟨(some 11), none, .mov (.t 6)⟩,
   ⟨(some 12), none, .bin .add (.t 11) (.c (.g (.int .i64 1)))⟩,
   ⟨(some 6), none, .mov (.t 12)⟩]
def F34 : IFunc := ⟨2, 34, [.tmp 4], false,
 .seq (.reg [0, 1] [⟨(some 4), none, .nres 4⟩]) <|
 .seq (.reg [0, 1, 5] [⟨(some 5), none, .nres 4⟩]) <|
 .seq (.seq (.reg [0, 1, 5, 6] [⟨(some 6), none, .mov (.c (.g (.int .i64 0)))⟩]) <|
  .block [5] 0 <|
  .loop [0, 1, 5, 6] [] L34_0) <|
 .seq (.reg [4] [⟨(some 33), none, .mov (.t 5)⟩,
    ⟨(some 4), none, .mov (.t 33)⟩]) <|
 .ret⟩
def h34 : List (List Nat) := [[0, 1], [0, 1, 5], [0, 1, 5, 6], [5], [0, 1, 5, 6], [0, 1, 5, 6, 10], [0, 1, 5, 6], [0, 1, 5, 6], [0, 1, 5, 6, 23], [0, 1, 5, 6], [0, 1, 5, 6], [0, 1, 5, 6], [4]]
theorem c34 : cFunc Try.prog 34 false h34 = some F34 := by kernel_rfl

/-- baton/batonlaw08.in -/
def L35_0 : IC :=
 .seq (.seq (.reg [0, 1, 5, 9] [⟨(some 6), none, .mov (.t 5)⟩,
     ⟨(some 7), none, .mov (.t 0)⟩,
     ⟨(some 8), none, .len (.t 7)⟩,
     ⟨(some 9), none, .bin .lss (.t 6) (.t 8)⟩]) <|
  .cond [0, 1, 5] (.t 9)
   (.skip)
   (.exit 0)) <|
 .seq (.block [0, 1, 5] 1 <|
  .seq (.reg [0, 1, 5, 17] [⟨(some 12), none, .mov (.t 0)⟩,
     ⟨(some 13), none, .mov (.t 5)⟩,
     ⟨(some 14), none, .iaddr 1 (.t 12) (.t 13)⟩,
     ⟨(some 15), none, .load false 1 (.t 14)⟩,
     ⟨(some 16), none, .mov (.t 1)⟩,
     ⟨(some 17), none, .bin .eql (.t 15) (.t 16)⟩]) <|
  .cond [0, 1, 5] (.t 17)
   (.seq (.reg [4] [⟨(some 4), none, .mov (.c (.g (.bool true)))⟩]) <|
    .ret)
   (.skip)) <|
 .reg [0, 1, 5] [⟨(some 10), none, .mov (.t 5)⟩,
   ⟨(some 11), none, .bin .add (.t 10) (.c (.g (.int .i64 1)))⟩,
   ⟨(some 5), none, .mov (.t 11)⟩]
def F35 : IFunc := ⟨2, 18, [.tmp 4], false,
 .seq (.reg [0, 1] [⟨(some 4), none, .mov (.c (.g (.bool false)))⟩]) <|
 .seq (.seq (.reg [0, 1, 5] [⟨(some 5), none, .mov (.c (.g (.int .i64 0)))⟩]) <|
  .block [] 0 <|
  .loop [0, 1, 5] [] L35_0) <|
 .seq (.reg [4] [⟨(some 4), none, .mov (.c (.g (.bool false)))⟩]) <|
 .ret⟩
def h35 : List (List Nat) := [[0, 1], [0, 1, 5], [], [0, 1, 5], [0, 1, 5, 9], [0, 1, 5], [0, 1, 5], [0, 1, 5, 17], [0, 1, 5], [4], [0, 1, 5], [4]]
theorem c35 : cFunc Try.prog 35 false h35 = some F35 := by kernel_rfl

/-- baton/batonref03.Short -/
def L36_0 : IC :=
 .seq (.seq (.reg [1, 3, 40] [⟨(some 35), none, .mov (.t 3)⟩,
     ⟨(some 36), none, .faddr 10 (.t 1)⟩,
     ⟨(some 37), none, .faddr 0 (.t 36)⟩,
     ⟨(some 38), none, .load false 1 (.t 37)⟩,
     ⟨(some 39), none, .len (.t 38)⟩,
     ⟨(some 40), none, .bin .lss (.t 35) (.t 39)⟩]) <|
  .cond [1, 3] (.t 40)
   (.skip)
   (.exit 0)) <|
 .seq (.block [1, 3] 1 <|
  .seq (.reg [1, 3, 62] [⟨(some 43), none, .faddr 10 (.t 1)⟩,
     ⟨(some 44), none, .faddr 0 (.t 43)⟩,
     ⟨(some 45), none, .load false 1 (.t 44)⟩,
     ⟨(some 46), none, .mov (.t 3)⟩,
     ⟨(some 47), none, .iaddr 5 (.t 45) (.t 46)⟩,
     ⟨(some 48), none, .faddr 0 (.t 47)⟩,
     ⟨(some 49), none, .load false 1 (.t 48)⟩,
     ⟨(some 50), none, .lenS (.t 49)⟩,
     ⟨(some 51), none, .bin .gtr (.t 50) (.c (.g (.int .i64 60)))⟩,
     ⟨(some 52), none, .mov (.t 51)⟩,
     ⟨(some 53), (some (52, false)), .faddr 10 (.t 1)⟩,
     ⟨(some 54), (some (52, false)), .faddr 0 (.t 53)⟩,
     ⟨(some 55), (some (52, false)), .load false 1 (.t 54)⟩,
     ⟨(some 56), (some (52, false)), .mov (.t 3)⟩,
     ⟨(some 57), (some (52, false)), .iaddr 5 (.t 55) (.t 56)⟩,
     ⟨(some 58), (some (52, false)), .faddr 4 (.t 57)⟩,
     ⟨(some 59), (some (52, false)), .load false 1 (.t 58)⟩,
     ⟨(some 60), (some (52, false)), .lenS (.t 59)⟩,
     ⟨(some 61), (some (52, false)), .bin .gtr (.t 60) (.c (.g (.int .i64 60)))⟩,
     ⟨(some 62), none, .pick (.t 52) (.c (.g (.bool true))) (.t 61)⟩]) <|
  .cond [1, 3] (.t 62)
   (.seq (.reg [2] [⟨(some 2), none, .mov (.c (.g (.bool false)))⟩]) <|
    .ret)
   (.skip)) <|
 .reg [1, 3] [⟨(some 41), none, .mov (.t 3)⟩,
   ⟨(some 42), none, .bin .add (.t 41) (.c (.g (.int .i64 1)))⟩,
   ⟨(some 3), none, .mov (.t 42)⟩]
def F36 : IFunc := ⟨1, 73, [.tmp 2], false,
 .seq (.reg [1] [⟨(some 1), none, .box (.t 0)⟩,
    ⟨(some 2), none, .mov (.c (.g (.bool false)))⟩]) <|
 .seq (.seq (.reg [1, 34] [⟨(some 4), none, .faddr 4 (.t 1)⟩,
     ⟨(some 5), none, .load false 1 (.t 4)⟩,
     ⟨(some 6), none, .lenS (.t 5)⟩,
     ⟨(some 7), none, .bin .gtr (.t 6) (.c (.g (.int .i64 60)))⟩,
     ⟨(some 8), none, .mov (.t 7)⟩,
     ⟨(some 9), (some (8, false)), .faddr 5 (.t 1)⟩,
     ⟨(some 10), (some (8, false)), .load false 1 (.t 9)⟩,
     ⟨(some 11), (some (8, false)), .lenS (.t 10)⟩,
     ⟨(some 12), (some (8, false)), .bin .gtr (.t 11) (.c (.g (.int .i64 60)))⟩,
     ⟨(some 13), none, .pick (.t 8) (.c (.g (.bool true))) (.t 12)⟩,
     ⟨(some 14), none, .mov (.t 13)⟩,
     ⟨(some 15), (some (14, false)), .faddr 10 (.t 1)⟩,
     ⟨(some 16), (some (14, false)), .faddr 0 (.t 15)⟩,
     ⟨(some 17), (some (14, false)), .load false 1 (.t 16)⟩,
     ⟨(some 18), (some (14, false)), .len (.t 17)⟩,
     ⟨(some 19), (some (14, false)), .bin .gtr (.t 18) (.c (.g (.int .i64 8)))⟩,
     ⟨(some 20), none, .pick (.t 14) (.c (.g (.bool true))) (.t 19)⟩,
     ⟨(some 21), none, .mov (.t 20)⟩,
     ⟨(some 22), (some (21, false)), .faddr 10 (.t 1)⟩,
     ⟨(some 23), (some (21, false)), .faddr 1 (.t 22)⟩,
     ⟨(some 24), (some (21, false)), .load false 1 (.t 23)⟩,
     ⟨(some 25), (some (21, false)), .len (.t 24)⟩,
     ⟨(some 26), (some (21, false)), .bin .gtr (.t 25) (.c (.g (.int .i64 8)))⟩,
     ⟨(some 27), none, .pick (.t 21) (.c (.g (.bool true))) (.t 26)⟩,
     ⟨(some 28), none, .mov (.t 27)⟩,
     ⟨(some 29), (some (28, false)), .faddr 10 (.t 1)⟩,
     ⟨(some 30), (some (28, false)), .faddr 2 (.t 29)⟩,
     ⟨(some 31), (some (28, false)), .load false 1 (.t 30)⟩,
     ⟨(some 32), (some (28, false)), .len (.t 31)⟩,
     ⟨(some 33), (some (28, false)), .bin .gtr (.t 32) (.c (.g (.int .i64 8)))⟩,
     ⟨(some 34), none, .pick (.t 28) (.c (.g (.bool true))) (.t 33)⟩]) <|
  .cond [1] (.t 34)
   (.seq (.reg [2] [⟨(some 2), none, .mov (.c (.g (.bool false)))⟩]) <|
    .ret)
   (.skip)) <|
 .seq (.seq (.reg [1, 3] [⟨(some 3), none, .mov (.c (.g (.int .i64 0)))⟩]) <|
  .block [1] 0 <|
  .loop [1, 3] [] L36_0) <|
 .seq (.reg [2] [⟨(some 63), none, .faddr 10 (.t 1)⟩,
    ⟨(some 64), none, .faddr 1 (.t 63)⟩,
    ⟨(some 65), none, .load false 1 (.t 64)⟩,
    ⟨(some 66), none, .call (.c (.g (.fn 67))) [(.t 65)]⟩,
    ⟨(some 67), none, .mov (.t 66)⟩,
    ⟨(some 68), (some (67, true)), .faddr 10 (.t 1)⟩,
    ⟨(some 69), (some (67, true)), .faddr 2 (.t 68)⟩,
    ⟨(some 70), (some (67, true)), .load false 1 (.t 69)⟩,
    ⟨(some 71), (some (67, true)), .call (.c (.g (.fn 67))) [(.t 70)]⟩,
    ⟨(some 72), none, .pick (.t 67) (.t 71) (.c (.g (.bool false)))⟩,
    ⟨(some 2), none, .mov (.t 72)⟩]) <|
 .ret⟩
def h36 : List (List Nat) := [[1], [1, 34], [1], [2], [1, 3], [1], [1, 3], [1, 3, 40], [1, 3], [1, 3], [1, 3, 62], [1, 3], [2], [1, 3], [2]]
theorem c36 : cFunc Try.prog 36 false h36 = some F36 := by kernel_rfl

end Go.Proofs.Ytlcjocciianphaa
