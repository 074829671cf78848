/- Part of the proof: IRa. No conditions. -/
import Derived.Test.YtahjgmldkbbpaaaAMJ3
import Derived.Test.YtahjgmldkbbpaaaProg
import Derived.KernelRfl
namespace Go.Proofs.Ytahjgmldkbbpaaa
open Go Go.AM Go.Proofs
/-- gosem.cut.init -/
def F2 : IFunc := ⟨0, 1, [], false,
 .reg [] [⟨(some 0), none, .call (.c (.g (.fn 1))) []⟩]⟩
def h2 : List (List Nat) := [[]]
theorem c2 : cFunc Try.prog 2 false h2 = some F2 := by kernel_rfl

/-- baton/batonlaw14.SessTells -/
def F3 : IFunc := ⟨3, 77, [.tmp 6], false,
 .seq (.reg [1, 3, 5] [⟨(some 3), none, .box (.t 0)⟩,
    ⟨(some 5), none, .box (.t 2)⟩,
    ⟨(some 6), none, .mov (.c (.g (.bool false)))⟩]) <|
 .seq (.seq (.reg [1, 3, 5, 20] [⟨(some 11), none, .faddr 7 (.t 5)⟩,
     ⟨(some 12), none, .load false 1 (.t 11)⟩,
     ⟨(some 13), none, .call (.c (.g (.fn 14))) [(.t 12), (.c (.g (.int .i64 40)))]⟩,
     ⟨(some 14), none, .un .not (.t 13)⟩,
     ⟨(some 15), none, .mov (.t 14)⟩,
     ⟨(some 16), (some (15, false)), .faddr 8 (.t 5)⟩,
     ⟨(some 17), (some (15, false)), .load false 1 (.t 16)⟩,
     ⟨(some 18), (some (15, false)), .call (.c (.g (.fn 15))) [(.t 17), (.c (.g (.int .i64 40)))]⟩,
     ⟨(some 19), (some (15, false)), .un .not (.t 18)⟩,
     ⟨(some 20), none, .pick (.t 15) (.c (.g (.bool true))) (.t 19)⟩]) <|
  .cond [1, 3, 5] (.t 20)
   (.seq (.reg [6] [⟨(some 21), none, .call (.c (.g (.fn 16))) []⟩,
       ⟨(some 6), none, .mov (.t 21)⟩]) <|
    .ret)
   (.skip)) <|
 .seq (.reg [1, 3, 5, 7, 8] [⟨(some 23), none, .mov (.t 1)⟩,
    ⟨(some 24), none, .load true 9 (.t 5)⟩,
    ⟨(some 25), none, .call (.c (.g (.fn 17))) [(.t 23), (.t 24)]⟩,
    ⟨(some 22), none, .mov (.t 25)⟩,
    ⟨(some 26), none, .ext 0 (.t 22)⟩,
    ⟨(some 27), none, .ext 1 (.t 22)⟩,
    ⟨(some 7), none, .alloc [.z (.int .i64 0), .z (.int .i64 0), .z (.int .i64 0), .z (.int .i64 0)]⟩,
    ⟨none, none, .store 4 (.t 7) (.t 26)⟩,
    ⟨(some 8), none, .mov (.t 27)⟩]) <|
 .seq (.reg [1, 3, 7, 8, 9, 10] [⟨(some 29), none, .mov (.t 1)⟩,
    ⟨(some 30), none, .load true 9 (.t 5)⟩,
    ⟨(some 31), none, .call (.c (.g (.fn 18))) [(.t 29), (.t 30)]⟩,
    ⟨(some 28), none, .mov (.t 31)⟩,
    ⟨(some 32), none, .ext 0 (.t 28)⟩,
    ⟨(some 33), none, .ext 1 (.t 28)⟩,
    ⟨(some 9), none, .alloc [.z (.int .i64 0), .z (.int .i64 0), .z (.int .i64 0), .z (.int .i64 0)]⟩,
    ⟨none, none, .store 4 (.t 9) (.t 32)⟩,
    ⟨(some 10), none, .mov (.t 33)⟩]) <|
 .seq (.drw [6] 0 <|
  .take ⟨(some 34), none, .load true 4 (.t 7)⟩ <|
  .take ⟨(some 35), none, .load true 4 (.t 9)⟩ <|
  .take ⟨(some 36), none, .eqs false true [.i, .i, .i, .i] (.t 34) (.t 35)⟩ <|
  .take ⟨(some 37), none, .mov (.t 36)⟩ <|
  .take ⟨(some 38), (some (37, true)), .mov (.t 8)⟩ <|
  .take ⟨(some 39), (some (37, true)), .mov (.t 10)⟩ <|
  .take ⟨(some 40), (some (37, true)), .eqs false false [.b] (.t 38) (.t 39)⟩ <|
  .take ⟨(some 41), none, .pick (.t 37) (.t 40) (.c (.g (.bool false)))⟩ <|
  .take ⟨(some 42), none, .mov (.t 41)⟩ <|
  .take ⟨(some 43), (some (42, true)), .load true 4 (.t 3)⟩ <|
  .take ⟨(some 44), (some (42, true)), .mov (.t 1)⟩ <|
  .take ⟨(some 46), (some (42, true)), .load true 4 (.t 3)⟩ <|
  .take ⟨(some 47), (some (42, true)), .mov (.t 1)⟩ <|
  .one ⟨(some 45), (some (42, true)), .call (.c (.g (.fn 19))) [(.t 43), (.t 44)]⟩ <|
  .one ⟨(some 48), (some (42, true)), .call (.c (.g (.fn 20))) [(.t 46), (.t 47)]⟩ <|
  .take ⟨(some 49), (some (42, true)), .eqs false false [.b] (.t 45) (.t 48)⟩ <|
  .take ⟨(some 50), none, .pick (.t 42) (.t 49) (.c (.g (.bool false)))⟩ <|
  .take ⟨(some 51), none, .mov (.t 50)⟩ <|
  .take ⟨(some 53), (some (51, true)), .mov (.t 1)⟩ <|
  .take ⟨(some 56), (some (51, true)), .mov (.t 1)⟩ <|
  .alt ⟨(some 52), (some (51, true)), .load true 4 (.t 3)⟩
  (.alt ⟨(some 54), (some (51, true)), .call (.c (.g (.fn 21))) [(.t 52), (.t 53)]⟩
   (.one ⟨(some 55), (some (51, true)), .load true 4 (.t 3)⟩ <|
    .one ⟨(some 57), (some (51, true)), .call (.c (.g (.fn 22))) [(.t 55), (.t 56)]⟩ <|
    .take ⟨(some 58), (some (51, true)), .eqs false false [.b] (.t 54) (.t 57)⟩ <|
    .take ⟨(some 59), none, .pick (.t 51) (.t 58) (.c (.g (.bool false)))⟩ <|
    .take ⟨(some 60), none, .mov (.t 59)⟩ <|
    .take ⟨(some 61), (some (60, true)), .mov (.t 1)⟩ <|
    .take ⟨(some 63), (some (60, true)), .mov (.t 1)⟩ <|
    .one ⟨(some 62), (some (60, true)), .call (.c (.g (.fn 24))) [(.t 61)]⟩ <|
    .one ⟨(some 64), (some (60, true)), .call (.c (.g (.fn 25))) [(.t 63)]⟩ <|
    .one ⟨(some 65), (some (60, true)), .call (.c (.g (.fn 23))) [(.t 62), (.t 64)]⟩ <|
    .take ⟨(some 66), none, .pick (.t 60) (.t 65) (.c (.g (.bool false)))⟩ <|
    .take ⟨(some 67), none, .mov (.t 66)⟩ <|
    .alt ⟨(some 68), (some (67, true)), .load true 4 (.t 3)⟩
    (.alt ⟨(some 69), (some (67, true)), .call (.c (.g (.fn 26))) [(.t 68)]⟩
     (.one ⟨(some 70), (some (67, true)), .load true 4 (.t 3)⟩ <|
      .one ⟨(some 71), (some (67, true)), .call (.c (.g (.fn 27))) [(.t 70)]⟩ <|
      .one ⟨(some 72), (some (67, true)), .call (.c (.g (.fn 23))) [(.t 69), (.t 71)]⟩ <|
      .take ⟨(some 73), none, .pick (.t 67) (.t 72) (.c (.g (.bool false)))⟩ <|
      .take ⟨(some 74), none, .mov (.t 73)⟩ <|
      .one ⟨(some 75), (some (74, true)), .call (.c (.g (.fn 16))) []⟩ <|
      .take ⟨(some 76), none, .pick (.t 74) (.t 75) (.c (.g (.bool false)))⟩ <|
      .free <|
      .take ⟨(some 6), none, .mov (.t 76)⟩ <|
      .leaf)
     (.one ⟨(some 70), (some (67, true)), .load true 4 (.t 3)⟩ <|
      .one ⟨(some 69), (some (67, true)), .call (.c (.g (.fn 26))) [(.t 68)]⟩ <|
      .one ⟨(some 71), (some (67, true)), .call (.c (.g (.fn 27))) [(.t 70)]⟩ <|
      .one ⟨(some 72), (some (67, true)), .call (.c (.g (.fn 23))) [(.t 69), (.t 71)]⟩ <|
      .take ⟨(some 73), none, .pick (.t 67) (.t 72) (.c (.g (.bool false)))⟩ <|
      .take ⟨(some 74), none, .mov (.t 73)⟩ <|
      .one ⟨(some 75), (some (74, true)), .call (.c (.g (.fn 16))) []⟩ <|
      .take ⟨(some 76), none, .pick (.t 74) (.t 75) (.c (.g (.bool false)))⟩ <|
      .free <|
      .take ⟨(some 6), none, .mov (.t 76)⟩ <|
      .leaf))
    (.one ⟨(some 70), (some (67, true)), .load true 4 (.t 3)⟩ <|
     .one ⟨(some 68), (some (67, true)), .load true 4 (.t 3)⟩ <|
     .one ⟨(some 69), (some (67, true)), .call (.c (.g (.fn 26))) [(.t 68)]⟩ <|
     .one ⟨(some 71), (some (67, true)), .call (.c (.g (.fn 27))) [(.t 70)]⟩ <|
     .one ⟨(some 72), (some (67, true)), .call (.c (.g (.fn 23))) [(.t 69), (.t 71)]⟩ <|
     .take ⟨(some 73), none, .pick (.t 67) (.t 72) (.c (.g (.bool false)))⟩ <|
     .take ⟨(some 74), none, .mov (.t 73)⟩ <|
     .one ⟨(some 75), (some (74, true)), .call (.c (.g (.fn 16))) []⟩ <|
     .take ⟨(some 76), none, .pick (.t 74) (.t 75) (.c (.g (.bool false)))⟩ <|
     .free <|
     .take ⟨(some 6), none, .mov (.t 76)⟩ <|
     .leaf))
   (.one ⟨(some 55), (some (51, true)), .load true 4 (.t 3)⟩ <|
    .one ⟨(some 54), (some (51, true)), .call (.c (.g (.fn 21))) [(.t 52), (.t 53)]⟩ <|
    .one ⟨(some 57), (some (51, true)), .call (.c (.g (.fn 22))) [(.t 55), (.t 56)]⟩ <|
    .take ⟨(some 58), (some (51, true)), .eqs false false [.b] (.t 54) (.t 57)⟩ <|
    .take ⟨(some 59), none, .pick (.t 51) (.t 58) (.c (.g (.bool false)))⟩ <|
    .take ⟨(some 60), none, .mov (.t 59)⟩ <|
    .take ⟨(some 61), (some (60, true)), .mov (.t 1)⟩ <|
    .take ⟨(some 63), (some (60, true)), .mov (.t 1)⟩ <|
    .one ⟨(some 62), (some (60, true)), .call (.c (.g (.fn 24))) [(.t 61)]⟩ <|
    .one ⟨(some 64), (some (60, true)), .call (.c (.g (.fn 25))) [(.t 63)]⟩ <|
    .one ⟨(some 65), (some (60, true)), .call (.c (.g (.fn 23))) [(.t 62), (.t 64)]⟩ <|
    .take ⟨(some 66), none, .pick (.t 60) (.t 65) (.c (.g (.bool false)))⟩ <|
    .take ⟨(some 67), none, .mov (.t 66)⟩ <|
    .alt ⟨(some 68), (some (67, true)), .load true 4 (.t 3)⟩
    (.alt ⟨(some 69), (some (67, true)), .call (.c (.g (.fn 26))) [(.t 68)]⟩
     (.one ⟨(some 70), (some (67, true)), .load true 4 (.t 3)⟩ <|
      .one ⟨(some 71), (some (67, true)), .call (.c (.g (.fn 27))) [(.t 70)]⟩ <|
      .one ⟨(some 72), (some (67, true)), .call (.c (.g (.fn 23))) [(.t 69), (.t 71)]⟩ <|
      .take ⟨(some 73), none, .pick (.t 67) (.t 72) (.c (.g (.bool false)))⟩ <|
      .take ⟨(some 74), none, .mov (.t 73)⟩ <|
      .one ⟨(some 75), (some (74, true)), .call (.c (.g (.fn 16))) []⟩ <|
      .take ⟨(some 76), none, .pick (.t 74) (.t 75) (.c (.g (.bool false)))⟩ <|
      .free <|
      .take ⟨(some 6), none, .mov (.t 76)⟩ <|
      .leaf)
     (.one ⟨(some 70), (some (67, true)), .load true 4 (.t 3)⟩ <|
      .one ⟨(some 69), (some (67, true)), .call (.c (.g (.fn 26))) [(.t 68)]⟩ <|
      .one ⟨(some 71), (some (67, true)), .call (.c (.g (.fn 27))) [(.t 70)]⟩ <|
      .one ⟨(some 72), (some (67, true)), .call (.c (.g (.fn 23))) [(.t 69), (.t 71)]⟩ <|
      .take ⟨(some 73), none, .pick (.t 67) (.t 72) (.c (.g (.bool false)))⟩ <|
      .take ⟨(some 74), none, .mov (.t 73)⟩ <|
      .one ⟨(some 75), (some (74, true)), .call (.c (.g (.fn 16))) []⟩ <|
      .take ⟨(some 76), none, .pick (.t 74) (.t 75) (.c (.g (.bool false)))⟩ <|
      .free <|
      .take ⟨(some 6), none, .mov (.t 76)⟩ <|
      .leaf))
    (.one ⟨(some 70), (some (67, true)), .load true 4 (.t 3)⟩ <|
     .one ⟨(some 68), (some (67, true)), .load true 4 (.t 3)⟩ <|
     .one ⟨(some 69), (some (67, true)), .call (.c (.g (.fn 26))) [(.t 68)]⟩ <|
     .one ⟨(some 71), (some (67, true)), .call (.c (.g (.fn 27))) [(.t 70)]⟩ <|
     .one ⟨(some 72), (some (67, true)), .call (.c (.g (.fn 23))) [(.t 69), (.t 71)]⟩ <|
     .take ⟨(some 73), none, .pick (.t 67) (.t 72) (.c (.g (.bool false)))⟩ <|
     .take ⟨(some 74), none, .mov (.t 73)⟩ <|
     .one ⟨(some 75), (some (74, true)), .call (.c (.g (.fn 16))) []⟩ <|
     .take ⟨(some 76), none, .pick (.t 74) (.t 75) (.c (.g (.bool false)))⟩ <|
     .free <|
     .take ⟨(some 6), none, .mov (.t 76)⟩ <|
     .leaf)))
  (.one ⟨(some 55), (some (51, true)), .load true 4 (.t 3)⟩ <|
   .one ⟨(some 52), (some (51, true)), .load true 4 (.t 3)⟩ <|
   .one ⟨(some 54), (some (51, true)), .call (.c (.g (.fn 21))) [(.t 52), (.t 53)]⟩ <|
   .one ⟨(some 57), (some (51, true)), .call (.c (.g (.fn 22))) [(.t 55), (.t 56)]⟩ <|
   .take ⟨(some 58), (some (51, true)), .eqs false false [.b] (.t 54) (.t 57)⟩ <|
   .take ⟨(some 59), none, .pick (.t 51) (.t 58) (.c (.g (.bool false)))⟩ <|
   .take ⟨(some 60), none, .mov (.t 59)⟩ <|
   .take ⟨(some 61), (some (60, true)), .mov (.t 1)⟩ <|
   .take ⟨(some 63), (some (60, true)), .mov (.t 1)⟩ <|
   .one ⟨(some 62), (some (60, true)), .call (.c (.g (.fn 24))) [(.t 61)]⟩ <|
   .one ⟨(some 64), (some (60, true)), .call (.c (.g (.fn 25))) [(.t 63)]⟩ <|
   .one ⟨(some 65), (some (60, true)), .call (.c (.g (.fn 23))) [(.t 62), (.t 64)]⟩ <|
   .take ⟨(some 66), none, .pick (.t 60) (.t 65) (.c (.g (.bool false)))⟩ <|
   .take ⟨(some 67), none, .mov (.t 66)⟩ <|
   .alt ⟨(some 68), (some (67, true)), .load true 4 (.t 3)⟩
   (.alt ⟨(some 69), (some (67, true)), .call (.c (.g (.fn 26))) [(.t 68)]⟩
    (.one ⟨(some 70), (some (67, true)), .load true 4 (.t 3)⟩ <|
     .one ⟨(some 71), (some (67, true)), .call (.c (.g (.fn 27))) [(.t 70)]⟩ <|
     .one ⟨(some 72), (some (67, true)), .call (.c (.g (.fn 23))) [(.t 69), (.t 71)]⟩ <|
     .take ⟨(some 73), none, .pick (.t 67) (.t 72) (.c (.g (.bool false)))⟩ <|
     .take ⟨(some 74), none, .mov (.t 73)⟩ <|
     .one ⟨(some 75), (some (74, true)), .call (.c (.g (.fn 16))) []⟩ <|
     .take ⟨(some 76), none, .pick (.t 74) (.t 75) (.c (.g (.bool false)))⟩ <|
     .free <|
     .take ⟨(some 6), none, .mov (.t 76)⟩ <|
     .leaf)
    (.one ⟨(some 70), (some (67, true)), .load true 4 (.t 3)⟩ <|
     .one ⟨(some 69), (some (67, true)), .call (.c (.g (.fn 26))) [(.t 68)]⟩ <|
     .one ⟨(some 71), (some (67, true)), .call (.c (.g (.fn 27))) [(.t 70)]⟩ <|
     .one ⟨(some 72), (some (67, true)), .call (.c (.g (.fn 23))) [(.t 69), (.t 71)]⟩ <|
     .take ⟨(some 73), none, .pick (.t 67) (.t 72) (.c (.g (.bool false)))⟩ <|
     .take ⟨(some 74), none, .mov (.t 73)⟩ <|
     .one ⟨(some 75), (some (74, true)), .call (.c (.g (.fn 16))) []⟩ <|
     .take ⟨(some 76), none, .pick (.t 74) (.t 75) (.c (.g (.bool false)))⟩ <|
     .free <|
     .take ⟨(some 6), none, .mov (.t 76)⟩ <|
     .leaf))
   (.one ⟨(some 70), (some (67, true)), .load true 4 (.t 3)⟩ <|
    .one ⟨(some 68), (some (67, true)), .load true 4 (.t 3)⟩ <|
    .one ⟨(some 69), (some (67, true)), .call (.c (.g (.fn 26))) [(.t 68)]⟩ <|
    .one ⟨(some 71), (some (67, true)), .call (.c (.g (.fn 27))) [(.t 70)]⟩ <|
    .one ⟨(some 72), (some (67, true)), .call (.c (.g (.fn 23))) [(.t 69), (.t 71)]⟩ <|
    .take ⟨(some 73), none, .pick (.t 67) (.t 72) (.c (.g (.bool false)))⟩ <|
    .take ⟨(some 74), none, .mov (.t 73)⟩ <|
    .one ⟨(some 75), (some (74, true)), .call (.c (.g (.fn 16))) []⟩ <|
    .take ⟨(some 76), none, .pick (.t 74) (.t 75) (.c (.g (.bool false)))⟩ <|
    .free <|
    .take ⟨(some 6), none, .mov (.t 76)⟩ <|
    .leaf))) <|
 .ret⟩
def h3 : List (List Nat) := [[1, 3, 5], [1, 3, 5, 20], [1, 3, 5], [6], [1, 3, 5, 7, 8], [1, 3, 7, 8, 9, 10], [6]]
theorem c3 : cFunc Try.prog 3 false h3 = some F3 := by kernel_rfl

/-- baton/batonlaw14.SessKeeps -/
def F4 : IFunc := ⟨3, 30, [.tmp 6], false,
 .seq (.reg [1, 3, 5] [⟨(some 3), none, .box (.t 0)⟩,
    ⟨(some 5), none, .box (.t 2)⟩,
    ⟨(some 6), none, .mov (.c (.g (.bool false)))⟩]) <|
 .seq (.seq (.reg [1, 3, 5, 16] [⟨(some 7), none, .faddr 7 (.t 5)⟩,
     ⟨(some 8), none, .load false 1 (.t 7)⟩,
     ⟨(some 9), none, .call (.c (.g (.fn 14))) [(.t 8), (.c (.g (.int .i64 40)))]⟩,
     ⟨(some 10), none, .un .not (.t 9)⟩,
     ⟨(some 11), none, .mov (.t 10)⟩,
     ⟨(some 12), (some (11, false)), .faddr 8 (.t 5)⟩,
     ⟨(some 13), (some (11, false)), .load false 1 (.t 12)⟩,
     ⟨(some 14), (some (11, false)), .call (.c (.g (.fn 15))) [(.t 13), (.c (.g (.int .i64 40)))]⟩,
     ⟨(some 15), (some (11, false)), .un .not (.t 14)⟩,
     ⟨(some 16), none, .pick (.t 11) (.c (.g (.bool true))) (.t 15)⟩]) <|
  .cond [1, 3, 5] (.t 16)
   (.seq (.reg [6] [⟨(some 17), none, .call (.c (.g (.fn 16))) []⟩,
       ⟨(some 6), none, .mov (.t 17)⟩]) <|
    .ret)
   (.skip)) <|
 .seq (.drw [6] 0 <|
  .take ⟨(some 18), none, .load true 4 (.t 3)⟩ <|
  .take ⟨(some 19), none, .mov (.t 1)⟩ <|
  .take ⟨(some 20), none, .load true 9 (.t 5)⟩ <|
  .take ⟨(some 22), none, .load true 4 (.t 3)⟩ <|
  .take ⟨(some 23), none, .mov (.t 1)⟩ <|
  .take ⟨(some 24), none, .load true 9 (.t 5)⟩ <|
  .one ⟨(some 21), none, .call (.c (.g (.fn 28))) [(.t 18), (.t 19), (.t 20)]⟩ <|
  .one ⟨(some 25), none, .call (.c (.g (.fn 29))) [(.t 22), (.t 23), (.t 24)]⟩ <|
  .take ⟨(some 26), none, .eqs false true [.i, .i, .i, .i] (.t 21) (.t 25)⟩ <|
  .take ⟨(some 27), none, .mov (.t 26)⟩ <|
  .one ⟨(some 28), (some (27, true)), .call (.c (.g (.fn 16))) []⟩ <|
  .take ⟨(some 29), none, .pick (.t 27) (.t 28) (.c (.g (.bool false)))⟩ <|
  .free <|
  .take ⟨(some 6), none, .mov (.t 29)⟩ <|
  .leaf) <|
 .ret⟩
def h4 : List (List Nat) := [[1, 3, 5], [1, 3, 5, 16], [1, 3, 5], [6], [6]]
theorem c4 : cFunc Try.prog 4 false h4 = some F4 := by kernel_rfl

/-- baton/batonlaw14.SessLasts -/
def L5_0 : IC :=
 .seq (.seq (.reg [0, 1, 2, 7, 9, 10, 37] [⟨(some 34), none, .mov (.t 10)⟩,
     ⟨(some 35), none, .mov (.t 2)⟩,
     ⟨(some 36), none, .len (.t 35)⟩,
     ⟨(some 37), none, .bin .lss (.t 34) (.t 36)⟩]) <|
  .cond [0, 1, 2, 7, 9, 10] (.t 37)
   (.skip)
   (.exit 0)) <|
 .seq (.block [0, 1, 2, 7, 9, 10] 1 <|
  .seq (.seq (.reg [0, 1, 2, 7, 9, 10, 51] [⟨(some 40), none, .mov (.t 2)⟩,
      ⟨(some 41), none, .mov (.t 10)⟩,
      ⟨(some 42), none, .iaddr 1 (.t 40) (.t 41)⟩,
      ⟨(some 43), none, .load false 1 (.t 42)⟩,
      ⟨(some 44), none, .bin .lss (.t 43) (.c (.g (.int .i64 0)))⟩,
      ⟨(some 45), none, .mov (.t 44)⟩,
      ⟨(some 46), (some (45, false)), .mov (.t 2)⟩,
      ⟨(some 47), (some (45, false)), .mov (.t 10)⟩,
      ⟨(some 48), (some (45, false)), .iaddr 1 (.t 46) (.t 47)⟩,
      ⟨(some 49), (some (45, false)), .load false 1 (.t 48)⟩,
      ⟨(some 50), (some (45, false)), .bin .gtr (.t 49) (.c (.g (.int .i64 1099511627775)))⟩,
      ⟨(some 51), none, .pick (.t 45) (.c (.g (.bool true))) (.t 50)⟩]) <|
   .cond [0, 1, 2, 7, 9, 10] (.t 51)
    (.seq (.reg [6] [⟨(some 52), none, .call (.c (.g (.fn 16))) []⟩,
        ⟨(some 6), none, .mov (.t 52)⟩]) <|
     .ret)
    (.skip)) <|
  .seq (.drw [0, 1, 2, 7, 9, 10] 0 <|
   .take ⟨(some 53), none, .load true 4 (.t 7)⟩ <|
   .take ⟨(some 54), none, .mov (.t 2)⟩ <|
   .take ⟨(some 55), none, .mov (.t 10)⟩ <|
   .take ⟨(some 56), none, .iaddr 1 (.t 54) (.t 55)⟩ <|
   .take ⟨(some 57), none, .load false 1 (.t 56)⟩ <|
   .take ⟨(some 58), none, .mov (.t 1)⟩ <|
   .take ⟨(some 59), none, .build [.g (.int .i64 0), .g (.int .i64 0), .g (.int .i64 0), .g (.int .i64 0), .g (.int .i64 0), .g (.int .i64 0), .g (.bool false), .g (.nsl), .g (.nsl)] [(4, 1, (.c (.g (.int .i64 5)))), (5, 1, (.t 58))]⟩ <|
   .free <|
   .one ⟨(some 60), none, .call (.c (.g (.fn 28))) [(.t 53), (.t 57), (.t 59)]⟩ <|
   .one ⟨none, none, .store 4 (.t 7) (.t 60)⟩ <|
   .leaf) <|
  .reg [0, 1, 2, 7, 9, 10] [⟨(some 61), none, .mov (.t 9)⟩,
    ⟨(some 62), none, .mov (.t 2)⟩,
    ⟨(some 63), none, .mov (.t 10)⟩,
    ⟨(some 64), none, .iaddr 1 (.t 62) (.t 63)⟩,
    ⟨(some 65), none, .load false 1 (.t 64)⟩,
    ⟨(some 66), none, .mx (.t 61) [(.t 65)]⟩,
    ⟨(some 9), none, .mov (.t 66)⟩]) <|
 .reg [0, 1, 2, 7, 9, 10] [⟨(some 38), none, .mov (.t 10)⟩,
   ⟨(some 39), none, .bin .add (.t 38) (.c (.g (.int .i64 1)))⟩,
   ⟨(some 10), none, .mov (.t 39)⟩]
def L5_1 : IC :=
 .seq (.seq (.reg [1, 2, 7, 9, 11, 13, 78] [⟨(some 77), none, .mov (.t 13)⟩,
     ⟨(some 78), none, .bin .geq (.t 77) (.c (.g (.int .i64 0)))⟩]) <|
  .cond [1, 2, 7, 9, 11, 13] (.t 78)
   (.skip)
   (.exit 2)) <|
 .seq (.block [1, 2, 7, 9, 11, 13] 3 <|
  .drw [1, 2, 7, 9, 11, 13] 0 <|
  .take ⟨(some 81), none, .load true 4 (.t 11)⟩ <|
  .take ⟨(some 82), none, .mov (.t 2)⟩ <|
  .take ⟨(some 83), none, .mov (.t 13)⟩ <|
  .take ⟨(some 84), none, .iaddr 1 (.t 82) (.t 83)⟩ <|
  .take ⟨(some 85), none, .load false 1 (.t 84)⟩ <|
  .take ⟨(some 86), none, .mov (.t 1)⟩ <|
  .take ⟨(some 87), none, .build [.g (.int .i64 0), .g (.int .i64 0), .g (.int .i64 0), .g (.int .i64 0), .g (.int .i64 0), .g (.int .i64 0), .g (.bool false), .g (.nsl), .g (.nsl)] [(4, 1, (.c (.g (.int .i64 5)))), (5, 1, (.t 86))]⟩ <|
  .free <|
  .one ⟨(some 88), none, .call (.c (.g (.fn 28))) [(.t 81), (.t 85), (.t 87)]⟩ <|
  .one ⟨none, none, .store 4 (.t 11) (.t 88)⟩ <|
  .leaf) <|
 .reg [1, 2, 7, 9, 11, 13] [⟨(some 79), none, .mov (.t 13)⟩,
   ⟨(some 80), none, .bin .sub (.t 79) (.c (.g (.int .i64 1)))⟩,
   ⟨(some 13), none, .mov (.t 80)⟩]
def F5 : IFunc := ⟨3, 125, [.tmp 6], false,
 .seq (.reg [0, 1, 2] [⟨(some 6), none, .mov (.c (.g (.bool false)))⟩]) <|
 .seq (.seq (.reg [0, 1, 2, 16] [⟨(some 14), none, .mov (.t 2)⟩,
     ⟨(some 15), none, .len (.t 14)⟩,
     ⟨(some 16), none, .bin .gtr (.t 15) (.c (.g (.int .i64 20)))⟩]) <|
  .cond [0, 1, 2] (.t 16)
   (.seq (.reg [6] [⟨(some 17), none, .call (.c (.g (.fn 16))) []⟩,
       ⟨(some 6), none, .mov (.t 17)⟩]) <|
    .ret)
   (.skip)) <|
 .seq (.reg [0, 1, 2, 7, 8] [⟨(some 19), none, .mov (.t 0)⟩,
    ⟨(some 20), none, .mov (.t 1)⟩,
    ⟨(some 21), none, .build [.g (.int .i64 0), .g (.int .i64 0), .g (.int .i64 0), .g (.int .i64 0), .g (.int .i64 0), .g (.int .i64 0), .g (.bool false), .g (.nsl), .g (.nsl)] [(4, 1, (.c (.g (.int .i64 5)))), (5, 1, (.t 20))]⟩,
    ⟨(some 22), none, .call (.c (.g (.fn 17))) [(.t 19), (.t 21)]⟩,
    ⟨(some 18), none, .mov (.t 22)⟩,
    ⟨(some 23), none, .ext 0 (.t 18)⟩,
    ⟨(some 24), none, .ext 1 (.t 18)⟩,
    ⟨(some 7), none, .alloc [.z (.int .i64 0), .z (.int .i64 0), .z (.int .i64 0), .z (.int .i64 0)]⟩,
    ⟨none, none, .store 4 (.t 7) (.t 23)⟩,
    ⟨(some 8), none, .mov (.t 24)⟩]) <|
 .seq (.seq (.reg [0, 1, 2, 7, 26] [⟨(some 25), none, .mov (.t 8)⟩,
     ⟨(some 26), none, .un .not (.t 25)⟩]) <|
  .cond [0, 1, 2, 7] (.t 26)
   (.seq (.reg [6] [⟨(some 27), none, .load true 4 (.t 7)⟩,
       ⟨(some 28), none, .build [.g (.int .i64 0), .g (.int .i64 0), .g (.int .i64 0), .g (.int .i64 0)] []⟩,
       ⟨(some 29), none, .eqs false true [.i, .i, .i, .i] (.t 27) (.t 28)⟩,
       ⟨(some 30), none, .mov (.t 29)⟩,
       ⟨(some 31), (some (30, true)), .call (.c (.g (.fn 16))) []⟩,
       ⟨(some 32), none, .pick (.t 30) (.t 31) (.c (.g (.bool false)))⟩,
       ⟨(some 6), none, .mov (.t 32)⟩]) <|
    .ret)
   (.skip)) <|
 .seq (.reg [0, 1, 2, 7, 9] [⟨(some 33), none, .mov (.t 0)⟩,
    ⟨(some 9), none, .mov (.t 33)⟩]) <|
 .seq (.seq (.reg [0, 1, 2, 7, 9, 10] [⟨(some 10), none, .mov (.c (.g (.int .i64 0)))⟩]) <|
  .block [0, 1, 2, 7, 9] 0 <|
  .loop [0, 1, 2, 7, 9, 10] [] L5_0) <|
 .seq (.reg [1, 2, 7, 9, 11] [⟨(some 68), none, .mov (.t 0)⟩,
    ⟨(some 69), none, .mov (.t 1)⟩,
    ⟨(some 70), none, .build [.g (.int .i64 0), .g (.int .i64 0), .g (.int .i64 0), .g (.int .i64 0), .g (.int .i64 0), .g (.int .i64 0), .g (.bool false), .g (.nsl), .g (.nsl)] [(4, 1, (.c (.g (.int .i64 5)))), (5, 1, (.t 69))]⟩,
    ⟨(some 71), none, .call (.c (.g (.fn 17))) [(.t 68), (.t 70)]⟩,
    ⟨(some 67), none, .mov (.t 71)⟩,
    ⟨(some 72), none, .ext 0 (.t 67)⟩,
    ⟨(some 73), none, .ext 1 (.t 67)⟩,
    ⟨(some 11), none, .alloc [.z (.int .i64 0), .z (.int .i64 0), .z (.int .i64 0), .z (.int .i64 0)]⟩,
    ⟨none, none, .store 4 (.t 11) (.t 72)⟩,
    ⟨(some 12), none, .mov (.t 73)⟩]) <|
 .seq (.seq (.reg [1, 2, 7, 9, 11, 13] [⟨(some 74), none, .mov (.t 2)⟩,
     ⟨(some 75), none, .len (.t 74)⟩,
     ⟨(some 76), none, .bin .sub (.t 75) (.c (.g (.int .i64 1)))⟩,
     ⟨(some 13), none, .mov (.t 76)⟩]) <|
  .block [1, 7, 9, 11] 2 <|
  .loop [1, 2, 7, 9, 11, 13] [] L5_1) <|
 .seq (.drw [6] 0 <|
  .take ⟨(some 89), none, .load true 4 (.t 7)⟩ <|
  .take ⟨(some 90), none, .load true 4 (.t 11)⟩ <|
  .take ⟨(some 91), none, .eqs false true [.i, .i, .i, .i] (.t 89) (.t 90)⟩ <|
  .take ⟨(some 92), none, .mov (.t 91)⟩ <|
  .take ⟨(some 93), (some (92, true)), .faddr 2 (.t 7)⟩ <|
  .take ⟨(some 94), (some (92, true)), .load false 1 (.t 93)⟩ <|
  .take ⟨(some 95), (some (92, true)), .mov (.t 9)⟩ <|
  .take ⟨(some 96), (some (92, true)), .mov (.t 1)⟩ <|
  .one ⟨(some 97), (some (92, true)), .call (.c (.g (.fn 30))) [(.t 96)]⟩ <|
  .take ⟨(some 98), (some (92, true)), .bin .add (.t 95) (.t 97)⟩ <|
  .take ⟨(some 99), (some (92, true)), .bin .eql (.t 94) (.t 98)⟩ <|
  .take ⟨(some 100), none, .pick (.t 92) (.t 99) (.c (.g (.bool false)))⟩ <|
  .take ⟨(some 101), none, .mov (.t 100)⟩ <|
  .take ⟨(some 103), (some (101, true)), .faddr 2 (.t 7)⟩ <|
  .alt ⟨(some 102), (some (101, true)), .load true 4 (.t 7)⟩
  (.one ⟨(some 104), (some (101, true)), .load false 1 (.t 103)⟩ <|
   .take ⟨(some 105), (some (101, true)), .bin .sub (.t 104) (.c (.g (.int .i64 1)))⟩ <|
   .one ⟨(some 106), (some (101, true)), .call (.c (.g (.fn 19))) [(.t 102), (.t 105)]⟩ <|
   .take ⟨(some 107), none, .pick (.t 101) (.t 106) (.c (.g (.bool false)))⟩ <|
   .take ⟨(some 108), none, .mov (.t 107)⟩ <|
   .take ⟨(some 110), (some (108, true)), .faddr 2 (.t 7)⟩ <|
   .alt ⟨(some 109), (some (108, true)), .load true 4 (.t 7)⟩
   (.one ⟨(some 111), (some (108, true)), .load false 1 (.t 110)⟩ <|
    .one ⟨(some 112), (some (108, true)), .call (.c (.g (.fn 19))) [(.t 109), (.t 111)]⟩ <|
    .take ⟨(some 113), (some (108, true)), .un .not (.t 112)⟩ <|
    .take ⟨(some 114), none, .pick (.t 108) (.t 113) (.c (.g (.bool false)))⟩ <|
    .take ⟨(some 115), none, .mov (.t 114)⟩ <|
    .take ⟨(some 116), (some (115, true)), .faddr 3 (.t 7)⟩ <|
    .take ⟨(some 118), (some (115, true)), .faddr 2 (.t 7)⟩ <|
    .alt ⟨(some 117), (some (115, true)), .load false 1 (.t 116)⟩
    (.one ⟨(some 119), (some (115, true)), .load false 1 (.t 118)⟩ <|
     .take ⟨(some 120), (some (115, true)), .bin .leq (.t 117) (.t 119)⟩ <|
     .take ⟨(some 121), none, .pick (.t 115) (.t 120) (.c (.g (.bool false)))⟩ <|
     .take ⟨(some 122), none, .mov (.t 121)⟩ <|
     .one ⟨(some 123), (some (122, true)), .call (.c (.g (.fn 16))) []⟩ <|
     .take ⟨(some 124), none, .pick (.t 122) (.t 123) (.c (.g (.bool false)))⟩ <|
     .free <|
     .take ⟨(some 6), none, .mov (.t 124)⟩ <|
     .leaf)
    (.one ⟨(some 119), (some (115, true)), .load false 1 (.t 118)⟩ <|
     .one ⟨(some 117), (some (115, true)), .load false 1 (.t 116)⟩ <|
     .take ⟨(some 120), (some (115, true)), .bin .leq (.t 117) (.t 119)⟩ <|
     .take ⟨(some 121), none, .pick (.t 115) (.t 120) (.c (.g (.bool false)))⟩ <|
     .take ⟨(some 122), none, .mov (.t 121)⟩ <|
     .one ⟨(some 123), (some (122, true)), .call (.c (.g (.fn 16))) []⟩ <|
     .take ⟨(some 124), none, .pick (.t 122) (.t 123) (.c (.g (.bool false)))⟩ <|
     .free <|
     .take ⟨(some 6), none, .mov (.t 124)⟩ <|
     .leaf))
   (.one ⟨(some 111), (some (108, true)), .load false 1 (.t 110)⟩ <|
    .one ⟨(some 109), (some (108, true)), .load true 4 (.t 7)⟩ <|
    .one ⟨(some 112), (some (108, true)), .call (.c (.g (.fn 19))) [(.t 109), (.t 111)]⟩ <|
    .take ⟨(some 113), (some (108, true)), .un .not (.t 112)⟩ <|
    .take ⟨(some 114), none, .pick (.t 108) (.t 113) (.c (.g (.bool false)))⟩ <|
    .take ⟨(some 115), none, .mov (.t 114)⟩ <|
    .take ⟨(some 116), (some (115, true)), .faddr 3 (.t 7)⟩ <|
    .take ⟨(some 118), (some (115, true)), .faddr 2 (.t 7)⟩ <|
    .alt ⟨(some 117), (some (115, true)), .load false 1 (.t 116)⟩
    (.one ⟨(some 119), (some (115, true)), .load false 1 (.t 118)⟩ <|
     .take ⟨(some 120), (some (115, true)), .bin .leq (.t 117) (.t 119)⟩ <|
     .take ⟨(some 121), none, .pick (.t 115) (.t 120) (.c (.g (.bool false)))⟩ <|
     .take ⟨(some 122), none, .mov (.t 121)⟩ <|
     .one ⟨(some 123), (some (122, true)), .call (.c (.g (.fn 16))) []⟩ <|
     .take ⟨(some 124), none, .pick (.t 122) (.t 123) (.c (.g (.bool false)))⟩ <|
     .free <|
     .take ⟨(some 6), none, .mov (.t 124)⟩ <|
     .leaf)
    (.one ⟨(some 119), (some (115, true)), .load false 1 (.t 118)⟩ <|
     .one ⟨(some 117), (some (115, true)), .load false 1 (.t 116)⟩ <|
     .take ⟨(some 120), (some (115, true)), .bin .leq (.t 117) (.t 119)⟩ <|
     .take ⟨(some 121), none, .pick (.t 115) (.t 120) (.c (.g (.bool false)))⟩ <|
     .take ⟨(some 122), none, .mov (.t 121)⟩ <|
     .one ⟨(some 123), (some (122, true)), .call (.c (.g (.fn 16))) []⟩ <|
     .take ⟨(some 124), none, .pick (.t 122) (.t 123) (.c (.g (.bool false)))⟩ <|
     .free <|
     .take ⟨(some 6), none, .mov (.t 124)⟩ <|
     .leaf)))
  (.one ⟨(some 104), (some (101, true)), .load false 1 (.t 103)⟩ <|
   .take ⟨(some 105), (some (101, true)), .bin .sub (.t 104) (.c (.g (.int .i64 1)))⟩ <|
   .one ⟨(some 102), (some (101, true)), .load true 4 (.t 7)⟩ <|
   .one ⟨(some 106), (some (101, true)), .call (.c (.g (.fn 19))) [(.t 102), (.t 105)]⟩ <|
   .take ⟨(some 107), none, .pick (.t 101) (.t 106) (.c (.g (.bool false)))⟩ <|
   .take ⟨(some 108), none, .mov (.t 107)⟩ <|
   .take ⟨(some 110), (some (108, true)), .faddr 2 (.t 7)⟩ <|
   .alt ⟨(some 109), (some (108, true)), .load true 4 (.t 7)⟩
   (.one ⟨(some 111), (some (108, true)), .load false 1 (.t 110)⟩ <|
    .one ⟨(some 112), (some (108, true)), .call (.c (.g (.fn 19))) [(.t 109), (.t 111)]⟩ <|
    .take ⟨(some 113), (some (108, true)), .un .not (.t 112)⟩ <|
    .take ⟨(some 114), none, .pick (.t 108) (.t 113) (.c (.g (.bool false)))⟩ <|
    .take ⟨(some 115), none, .mov (.t 114)⟩ <|
    .take ⟨(some 116), (some (115, true)), .faddr 3 (.t 7)⟩ <|
    .take ⟨(some 118), (some (115, true)), .faddr 2 (.t 7)⟩ <|
    .alt ⟨(some 117), (some (115, true)), .load false 1 (.t 116)⟩
    (.one ⟨(some 119), (some (115, true)), .load false 1 (.t 118)⟩ <|
     .take ⟨(some 120), (some (115, true)), .bin .leq (.t 117) (.t 119)⟩ <|
     .take ⟨(some 121), none, .pick (.t 115) (.t 120) (.c (.g (.bool false)))⟩ <|
     .take ⟨(some 122), none, .mov (.t 121)⟩ <|
     .one ⟨(some 123), (some (122, true)), .call (.c (.g (.fn 16))) []⟩ <|
     .take ⟨(some 124), none, .pick (.t 122) (.t 123) (.c (.g (.bool false)))⟩ <|
     .free <|
     .take ⟨(some 6), none, .mov (.t 124)⟩ <|
     .leaf)
    (.one ⟨(some 119), (some (115, true)), .load false 1 (.t 118)⟩ <|
     .one ⟨(some 117), (some (115, true)), .load false 1 (.t 116)⟩ <|
     .take ⟨(some 120), (some (115, true)), .bin .leq (.t 117) (.t 119)⟩ <|
     .take ⟨(some 121), none, .pick (.t 115) (.t 120) (.c (.g (.bool false)))⟩ <|
     .take ⟨(some 122), none, .mov (.t 121)⟩ <|
     .one ⟨(some 123), (some (122, true)), .call (.c (.g (.fn 16))) []⟩ <|
     .take ⟨(some 124), none, .pick (.t 122) (.t 123) (.c (.g (.bool false)))⟩ <|
     .free <|
     .take ⟨(some 6), none, .mov (.t 124)⟩ <|
     .leaf))
   (.one ⟨(some 111), (some (108, true)), .load false 1 (.t 110)⟩ <|
    .one ⟨(some 109), (some (108, true)), .load true 4 (.t 7)⟩ <|
    .one ⟨(some 112), (some (108, true)), .call (.c (.g (.fn 19))) [(.t 109), (.t 111)]⟩ <|
    .take ⟨(some 113), (some (108, true)), .un .not (.t 112)⟩ <|
    .take ⟨(some 114), none, .pick (.t 108) (.t 113) (.c (.g (.bool false)))⟩ <|
    .take ⟨(some 115), none, .mov (.t 114)⟩ <|
    .take ⟨(some 116), (some (115, true)), .faddr 3 (.t 7)⟩ <|
    .take ⟨(some 118), (some (115, true)), .faddr 2 (.t 7)⟩ <|
    .alt ⟨(some 117), (some (115, true)), .load false 1 (.t 116)⟩
    (.one ⟨(some 119), (some (115, true)), .load false 1 (.t 118)⟩ <|
     .take ⟨(some 120), (some (115, true)), .bin .leq (.t 117) (.t 119)⟩ <|
     .take ⟨(some 121), none, .pick (.t 115) (.t 120) (.c (.g (.bool false)))⟩ <|
     .take ⟨(some 122), none, .mov (.t 121)⟩ <|
     .one ⟨(some 123), (some (122, true)), .call (.c (.g (.fn 16))) []⟩ <|
     .take ⟨(some 124), none, .pick (.t 122) (.t 123) (.c (.g (.bool false)))⟩ <|
     .free <|
     .take ⟨(some 6), none, .mov (.t 124)⟩ <|
     .leaf)
    (.one ⟨(some 119), (some (115, true)), .load false 1 (.t 118)⟩ <|
     .one ⟨(some 117), (some (115, true)), .load false 1 (.t 116)⟩ <|
     .take ⟨(some 120), (some (115, true)), .bin .leq (.t 117) (.t 119)⟩ <|
     .take ⟨(some 121), none, .pick (.t 115) (.t 120) (.c (.g (.bool false)))⟩ <|
     .take ⟨(some 122), none, .mov (.t 121)⟩ <|
     .one ⟨(some 123), (some (122, true)), .call (.c (.g (.fn 16))) []⟩ <|
     .take ⟨(some 124), none, .pick (.t 122) (.t 123) (.c (.g (.bool false)))⟩ <|
     .free <|
     .take ⟨(some 6), none, .mov (.t 124)⟩ <|
     .leaf)))) <|
 .ret⟩
def h5 : List (List Nat) := [[0, 1, 2], [0, 1, 2, 16], [0, 1, 2], [6], [0, 1, 2, 7, 8], [0, 1, 2, 7, 26], [0, 1, 2, 7], [6], [0, 1, 2, 7, 9], [0, 1, 2, 7, 9, 10], [0, 1, 2, 7, 9], [0, 1, 2, 7, 9, 10], [0, 1, 2, 7, 9, 10, 37], [0, 1, 2, 7, 9, 10], [0, 1, 2, 7, 9, 10], [0, 1, 2, 7, 9, 10, 51], [0, 1, 2, 7, 9, 10], [6], [0, 1, 2, 7, 9, 10], [0, 1, 2, 7, 9, 10], [0, 1, 2, 7, 9, 10], [1, 2, 7, 9, 11], [1, 2, 7, 9, 11, 13], [1, 7, 9, 11], [1, 2, 7, 9, 11, 13], [1, 2, 7, 9, 11, 13, 78], [1, 2, 7, 9, 11, 13], [1, 2, 7, 9, 11, 13], [1, 2, 7, 9, 11, 13], [1, 2, 7, 9, 11, 13], [6]]
theorem c5 : cFunc Try.prog 5 false h5 = some F5 := by kernel_rfl

/-- baton/batonlaw14.SessBegins -/
def F6 : IFunc := ⟨3, 149, [.tmp 6], false,
 .seq (.reg [0, 1, 2] [⟨(some 6), none, .mov (.c (.g (.bool false)))⟩]) <|
 .seq (.seq (.reg [0, 1, 2, 34] [⟨(some 13), none, .mov (.t 0)⟩,
     ⟨(some 14), none, .bin .lss (.t 13) (.c (.g (.int .i64 0)))⟩,
     ⟨(some 15), none, .mov (.t 14)⟩,
     ⟨(some 16), (some (15, false)), .mov (.t 0)⟩,
     ⟨(some 17), (some (15, false)), .bin .gtr (.t 16) (.c (.g (.int .i64 549755813888)))⟩,
     ⟨(some 18), none, .pick (.t 15) (.c (.g (.bool true))) (.t 17)⟩,
     ⟨(some 19), none, .mov (.t 18)⟩,
     ⟨(some 20), (some (19, false)), .mov (.t 1)⟩,
     ⟨(some 21), (some (19, false)), .bin .lss (.t 20) (.c (.g (.int .i64 2)))⟩,
     ⟨(some 22), none, .pick (.t 19) (.c (.g (.bool true))) (.t 21)⟩,
     ⟨(some 23), none, .mov (.t 22)⟩,
     ⟨(some 24), (some (23, false)), .mov (.t 1)⟩,
     ⟨(some 25), (some (23, false)), .bin .geq (.t 24) (.c (.g (.int .i64 1000)))⟩,
     ⟨(some 26), none, .pick (.t 23) (.c (.g (.bool true))) (.t 25)⟩,
     ⟨(some 27), none, .mov (.t 26)⟩,
     ⟨(some 28), (some (27, false)), .mov (.t 2)⟩,
     ⟨(some 29), (some (27, false)), .bin .lss (.t 28) (.c (.g (.int .i64 0)))⟩,
     ⟨(some 30), none, .pick (.t 27) (.c (.g (.bool true))) (.t 29)⟩,
     ⟨(some 31), none, .mov (.t 30)⟩,
     ⟨(some 32), (some (31, false)), .mov (.t 2)⟩,
     ⟨(some 33), (some (31, false)), .bin .gtr (.t 32) (.c (.g (.int .i64 2000)))⟩,
     ⟨(some 34), none, .pick (.t 31) (.c (.g (.bool true))) (.t 33)⟩]) <|
  .cond [0, 1, 2] (.t 34)
   (.seq (.reg [6] [⟨(some 35), none, .call (.c (.g (.fn 16))) []⟩,
       ⟨(some 6), none, .mov (.t 35)⟩]) <|
    .ret)
   (.skip)) <|
 .seq (.reg [0, 1, 2, 7, 8] [⟨(some 37), none, .mov (.t 0)⟩,
    ⟨(some 38), none, .mov (.t 1)⟩,
    ⟨(some 39), none, .build [.g (.int .i64 0), .g (.int .i64 0), .g (.int .i64 0), .g (.int .i64 0), .g (.int .i64 0), .g (.int .i64 0), .g (.bool false), .g (.nsl), .g (.nsl)] [(4, 1, (.c (.g (.int .i64 1)))), (5, 1, (.t 38))]⟩,
    ⟨(some 40), none, .call (.c (.g (.fn 17))) [(.t 37), (.t 39)]⟩,
    ⟨(some 36), none, .mov (.t 40)⟩,
    ⟨(some 41), none, .ext 0 (.t 36)⟩,
    ⟨(some 42), none, .ext 1 (.t 36)⟩,
    ⟨(some 7), none, .alloc [.z (.int .i64 0), .z (.int .i64 0), .z (.int .i64 0), .z (.int .i64 0)]⟩,
    ⟨none, none, .store 4 (.t 7) (.t 41)⟩,
    ⟨(some 8), none, .mov (.t 42)⟩]) <|
 .seq (.reg [0, 1, 2, 7, 8, 9, 10] [⟨(some 44), none, .mov (.t 0)⟩,
    ⟨(some 45), none, .mov (.t 1)⟩,
    ⟨(some 46), none, .bin .add (.t 45) (.c (.g (.int .i64 1)))⟩,
    ⟨(some 47), none, .build [.g (.int .i64 0), .g (.int .i64 0), .g (.int .i64 0), .g (.int .i64 0), .g (.int .i64 0), .g (.int .i64 0), .g (.bool false), .g (.nsl), .g (.nsl)] [(4, 1, (.c (.g (.int .i64 1)))), (5, 1, (.t 46))]⟩,
    ⟨(some 48), none, .call (.c (.g (.fn 17))) [(.t 44), (.t 47)]⟩,
    ⟨(some 43), none, .mov (.t 48)⟩,
    ⟨(some 49), none, .ext 0 (.t 43)⟩,
    ⟨(some 50), none, .ext 1 (.t 43)⟩,
    ⟨(some 9), none, .alloc [.z (.int .i64 0), .z (.int .i64 0), .z (.int .i64 0), .z (.int .i64 0)]⟩,
    ⟨none, none, .store 4 (.t 9) (.t 49)⟩,
    ⟨(some 10), none, .mov (.t 50)⟩]) <|
 .seq (.seq (.reg [0, 2, 7, 9, 77] [⟨(some 51), none, .mov (.t 8)⟩,
     ⟨(some 52), none, .un .not (.t 51)⟩,
     ⟨(some 53), none, .mov (.t 52)⟩,
     ⟨(some 54), (some (53, false)), .mov (.t 10)⟩,
     ⟨(some 55), (some (53, false)), .un .not (.t 54)⟩,
     ⟨(some 56), none, .pick (.t 53) (.c (.g (.bool true))) (.t 55)⟩,
     ⟨(some 57), none, .mov (.t 56)⟩,
     ⟨(some 58), (some (57, false)), .faddr 2 (.t 9)⟩,
     ⟨(some 59), (some (57, false)), .load false 1 (.t 58)⟩,
     ⟨(some 60), (some (57, false)), .faddr 2 (.t 7)⟩,
     ⟨(some 61), (some (57, false)), .load false 1 (.t 60)⟩,
     ⟨(some 62), (some (57, false)), .bin .lss (.t 59) (.t 61)⟩,
     ⟨(some 63), none, .pick (.t 57) (.c (.g (.bool true))) (.t 62)⟩,
     ⟨(some 64), none, .mov (.t 63)⟩,
     ⟨(some 65), (some (64, false)), .faddr 2 (.t 7)⟩,
     ⟨(some 66), (some (64, false)), .load false 1 (.t 65)⟩,
     ⟨(some 67), (some (64, false)), .mov (.t 0)⟩,
     ⟨(some 68), (some (64, false)), .bin .sub (.t 66) (.t 67)⟩,
     ⟨(some 69), (some (64, false)), .mov (.t 1)⟩,
     ⟨(some 70), (some (64, false)), .bin .geq (.t 68) (.t 69)⟩,
     ⟨(some 71), none, .pick (.t 64) (.c (.g (.bool true))) (.t 70)⟩,
     ⟨(some 72), none, .mov (.t 71)⟩,
     ⟨(some 73), (some (72, false)), .faddr 2 (.t 7)⟩,
     ⟨(some 74), (some (72, false)), .load false 1 (.t 73)⟩,
     ⟨(some 75), (some (72, false)), .mov (.t 0)⟩,
     ⟨(some 76), (some (72, false)), .bin .leq (.t 74) (.t 75)⟩,
     ⟨(some 77), none, .pick (.t 72) (.c (.g (.bool true))) (.t 76)⟩]) <|
  .cond [0, 2, 7, 9] (.t 77)
   (.seq (.reg [6] [⟨(some 6), none, .mov (.c (.g (.bool false)))⟩]) <|
    .ret)
   (.skip)) <|
 .seq (.reg [0, 7, 9, 11] [⟨(some 78), none, .mov (.t 0)⟩,
    ⟨(some 79), none, .mov (.t 2)⟩,
    ⟨(some 80), none, .bin .add (.t 78) (.t 79)⟩,
    ⟨(some 11), none, .mov (.t 80)⟩]) <|
 .seq (.seq (.drw [0, 7, 110] 0 <|
   .take ⟨(some 81), none, .load true 4 (.t 7)⟩ <|
   .take ⟨(some 82), none, .mov (.t 11)⟩ <|
   .take ⟨(some 84), none, .mov (.t 11)⟩ <|
   .take ⟨(some 85), none, .faddr 2 (.t 7)⟩ <|
   .take ⟨(some 86), none, .load false 1 (.t 85)⟩ <|
   .take ⟨(some 87), none, .bin .lss (.t 84) (.t 86)⟩ <|
   .one ⟨(some 83), none, .call (.c (.g (.fn 19))) [(.t 81), (.t 82)]⟩ <|
   .take ⟨(some 88), none, .eqs true false [.b] (.t 83) (.t 87)⟩ <|
   .take ⟨(some 89), none, .mov (.t 88)⟩ <|
   .take ⟨(some 91), (some (89, false)), .mov (.t 11)⟩ <|
   .one ⟨(some 90), (some (89, false)), .load true 4 (.t 7)⟩ <|
   .one ⟨(some 92), (some (89, false)), .call (.c (.g (.fn 21))) [(.t 90), (.t 91)]⟩ <|
   .take ⟨(some 93), (some (89, false)), .mov (.t 92)⟩ <|
   .take ⟨(some 95), (some (93, true)), .mov (.t 11)⟩ <|
   .one ⟨(some 94), (some (93, true)), .load true 4 (.t 7)⟩ <|
   .one ⟨(some 96), (some (93, true)), .call (.c (.g (.fn 19))) [(.t 94), (.t 95)]⟩ <|
   .take ⟨(some 97), (some (93, true)), .un .not (.t 96)⟩ <|
   .take ⟨(some 98), (some (89, false)), .pick (.t 93) (.t 97) (.c (.g (.bool false)))⟩ <|
   .take ⟨(some 99), none, .pick (.t 89) (.c (.g (.bool true))) (.t 98)⟩ <|
   .take ⟨(some 100), none, .mov (.t 99)⟩ <|
   .take ⟨(some 102), (some (100, false)), .mov (.t 11)⟩ <|
   .one ⟨(some 101), (some (100, false)), .load true 4 (.t 7)⟩ <|
   .one ⟨(some 103), (some (100, false)), .call (.c (.g (.fn 19))) [(.t 101), (.t 102)]⟩ <|
   .take ⟨(some 104), (some (100, false)), .mov (.t 103)⟩ <|
   .take ⟨(some 106), (some (104, true)), .mov (.t 11)⟩ <|
   .one ⟨(some 105), (some (104, true)), .load true 4 (.t 9)⟩ <|
   .one ⟨(some 107), (some (104, true)), .call (.c (.g (.fn 19))) [(.t 105), (.t 106)]⟩ <|
   .take ⟨(some 108), (some (104, true)), .un .not (.t 107)⟩ <|
   .take ⟨(some 109), (some (100, false)), .pick (.t 104) (.t 108) (.c (.g (.bool false)))⟩ <|
   .take ⟨(some 110), none, .pick (.t 100) (.c (.g (.bool true))) (.t 109)⟩ <|
   .leaf) <|
  .cond [0, 7] (.t 110)
   (.seq (.reg [6] [⟨(some 6), none, .mov (.c (.g (.bool false)))⟩]) <|
    .ret)
   (.skip)) <|
 .seq (.reg [0, 7, 12] [⟨(some 111), none, .faddr 3 (.t 7)⟩,
    ⟨(some 112), none, .load false 1 (.t 111)⟩,
    ⟨(some 113), none, .mov (.t 0)⟩,
    ⟨(some 114), none, .bin .sub (.t 112) (.t 113)⟩,
    ⟨(some 12), none, .mov (.t 114)⟩]) <|
 .seq (.reg [6] [⟨(some 115), none, .mov (.t 12)⟩,
    ⟨(some 116), none, .bin .mul (.c (.g (.int .i64 2))) (.t 115)⟩,
    ⟨(some 117), none, .faddr 2 (.t 7)⟩,
    ⟨(some 118), none, .load false 1 (.t 117)⟩,
    ⟨(some 119), none, .mov (.t 0)⟩,
    ⟨(some 120), none, .bin .sub (.t 118) (.t 119)⟩,
    ⟨(some 121), none, .bin .leq (.t 116) (.t 120)⟩,
    ⟨(some 122), none, .mov (.t 121)⟩,
    ⟨(some 123), (some (122, true)), .mov (.t 12)⟩,
    ⟨(some 124), (some (122, true)), .bin .mul (.c (.g (.int .i64 2))) (.t 123)⟩,
    ⟨(some 125), (some (122, true)), .bin .add (.t 124) (.c (.g (.int .i64 1)))⟩,
    ⟨(some 126), (some (122, true)), .faddr 2 (.t 7)⟩,
    ⟨(some 127), (some (122, true)), .load false 1 (.t 126)⟩,
    ⟨(some 128), (some (122, true)), .mov (.t 0)⟩,
    ⟨(some 129), (some (122, true)), .bin .sub (.t 127) (.t 128)⟩,
    ⟨(some 130), (some (122, true)), .bin .geq (.t 125) (.t 129)⟩,
    ⟨(some 131), none, .pick (.t 122) (.t 130) (.c (.g (.bool false)))⟩,
    ⟨(some 132), none, .mov (.t 131)⟩,
    ⟨(some 133), (some (132, true)), .load true 4 (.t 7)⟩,
    ⟨(some 134), (some (132, true)), .faddr 3 (.t 7)⟩,
    ⟨(some 135), (some (132, true)), .load false 1 (.t 134)⟩,
    ⟨(some 136), (some (132, true)), .call (.c (.g (.fn 21))) [(.t 133), (.t 135)]⟩,
    ⟨(some 137), none, .pick (.t 132) (.t 136) (.c (.g (.bool false)))⟩,
    ⟨(some 138), none, .mov (.t 137)⟩,
    ⟨(some 139), (some (138, true)), .load true 4 (.t 7)⟩,
    ⟨(some 140), (some (138, true)), .faddr 3 (.t 7)⟩,
    ⟨(some 141), (some (138, true)), .load false 1 (.t 140)⟩,
    ⟨(some 142), (some (138, true)), .bin .sub (.t 141) (.c (.g (.int .i64 1)))⟩,
    ⟨(some 143), (some (138, true)), .call (.c (.g (.fn 21))) [(.t 139), (.t 142)]⟩,
    ⟨(some 144), (some (138, true)), .un .not (.t 143)⟩,
    ⟨(some 145), none, .pick (.t 138) (.t 144) (.c (.g (.bool false)))⟩,
    ⟨(some 146), none, .mov (.t 145)⟩,
    ⟨(some 147), (some (146, true)), .call (.c (.g (.fn 16))) []⟩,
    ⟨(some 148), none, .pick (.t 146) (.t 147) (.c (.g (.bool false)))⟩,
    ⟨(some 6), none, .mov (.t 148)⟩]) <|
 .ret⟩
def h6 : List (List Nat) := [[0, 1, 2], [0, 1, 2, 34], [0, 1, 2], [6], [0, 1, 2, 7, 8], [0, 1, 2, 7, 8, 9, 10], [0, 2, 7, 9, 77], [0, 2, 7, 9], [6], [0, 7, 9, 11], [0, 7, 110], [0, 7], [6], [0, 7, 12], [6]]
theorem c6 : cFunc Try.prog 6 false h6 = some F6 := by kernel_rfl

/-- baton/batonlaw01.ShiftBytes -/
def F7 : IFunc := ⟨3, 45, [.tmp 6], false,
 .seq (.reg [0, 1, 2] [⟨(some 6), none, .mov (.c (.g (.bool false)))⟩]) <|
 .seq (.seq (.reg [0, 1, 2, 13] [⟨(some 11), none, .mov (.t 2)⟩,
     ⟨(some 12), none, .lenS (.t 11)⟩,
     ⟨(some 13), none, .bin .gtr (.t 12) (.c (.g (.int .i64 40)))⟩]) <|
  .cond [0, 1, 2] (.t 13)
   (.seq (.reg [6] [⟨(some 14), none, .call (.c (.g (.fn 31))) []⟩,
       ⟨(some 6), none, .mov (.t 14)⟩]) <|
    .ret)
   (.skip)) <|
 .seq (.reg [0, 1, 2, 7, 8] [⟨(some 16), none, .mov (.t 2)⟩,
    ⟨(some 17), none, .call (.c (.g (.fn 32))) [(.t 16)]⟩,
    ⟨(some 15), none, .mov (.t 17)⟩,
    ⟨(some 18), none, .ext 0 (.t 15)⟩,
    ⟨(some 19), none, .ext 1 (.t 15)⟩,
    ⟨(some 7), none, .mov (.t 18)⟩,
    ⟨(some 8), none, .mov (.t 19)⟩]) <|
 .seq (.reg [0, 1, 7, 8, 9, 10] [⟨(some 21), none, .mov (.t 2)⟩,
    ⟨(some 22), none, .call (.c (.g (.fn 33))) [(.t 21)]⟩,
    ⟨(some 20), none, .mov (.t 22)⟩,
    ⟨(some 23), none, .ext 0 (.t 20)⟩,
    ⟨(some 24), none, .ext 1 (.t 20)⟩,
    ⟨(some 9), none, .mov (.t 23)⟩,
    ⟨(some 10), none, .mov (.t 24)⟩]) <|
 .seq (.reg [6] [⟨(some 25), none, .mov (.t 0)⟩,
    ⟨(some 26), none, .mov (.t 1)⟩,
    ⟨(some 27), none, .call (.c (.g (.fn 34))) [(.t 25), (.t 26)]⟩,
    ⟨(some 28), none, .mov (.t 0)⟩,
    ⟨(some 29), none, .mov (.t 1)⟩,
    ⟨(some 30), none, .call (.c (.g (.fn 35))) [(.t 28), (.t 29)]⟩,
    ⟨(some 31), none, .bin .eql (.t 27) (.t 30)⟩,
    ⟨(some 32), none, .mov (.t 31)⟩,
    ⟨(some 33), (some (32, true)), .mov (.t 7)⟩,
    ⟨(some 34), (some (32, true)), .mov (.t 9)⟩,
    ⟨(some 35), (some (32, true)), .bin .eql (.t 33) (.t 34)⟩,
    ⟨(some 36), none, .pick (.t 32) (.t 35) (.c (.g (.bool false)))⟩,
    ⟨(some 37), none, .mov (.t 36)⟩,
    ⟨(some 38), (some (37, true)), .mov (.t 8)⟩,
    ⟨(some 39), (some (37, true)), .mov (.t 10)⟩,
    ⟨(some 40), (some (37, true)), .eqs false false [.b] (.t 38) (.t 39)⟩,
    ⟨(some 41), none, .pick (.t 37) (.t 40) (.c (.g (.bool false)))⟩,
    ⟨(some 42), none, .mov (.t 41)⟩,
    ⟨(some 43), (some (42, true)), .call (.c (.g (.fn 31))) []⟩,
    ⟨(some 44), none, .pick (.t 42) (.t 43) (.c (.g (.bool false)))⟩,
    ⟨(some 6), none, .mov (.t 44)⟩]) <|
 .ret⟩
def h7 : List (List Nat) := [[0, 1, 2], [0, 1, 2, 13], [0, 1, 2], [6], [0, 1, 2, 7, 8], [0, 1, 7, 8, 9, 10], [6]]
theorem c7 : cFunc Try.prog 7 false h7 = some F7 := by kernel_rfl

/-- baton/batonlaw01.ShiftSigns -/
def F8 : IFunc := ⟨3, 40, [.tmp 6], false,
 .seq (.reg [0, 1, 2] [⟨(some 6), none, .mov (.c (.g (.bool false)))⟩]) <|
 .seq (.reg [6] [⟨(some 7), none, .mov (.t 0)⟩,
    ⟨(some 8), none, .call (.c (.g (.fn 36))) [(.t 7)]⟩,
    ⟨(some 9), none, .mov (.t 0)⟩,
    ⟨(some 10), none, .call (.c (.g (.fn 37))) [(.t 9)]⟩,
    ⟨(some 11), none, .bin .eql (.t 8) (.t 10)⟩,
    ⟨(some 12), none, .mov (.t 11)⟩,
    ⟨(some 13), (some (12, true)), .mov (.t 1)⟩,
    ⟨(some 14), (some (12, true)), .call (.c (.g (.fn 38))) [(.t 13)]⟩,
    ⟨(some 15), (some (12, true)), .mov (.t 1)⟩,
    ⟨(some 16), (some (12, true)), .call (.c (.g (.fn 39))) [(.t 15)]⟩,
    ⟨(some 17), (some (12, true)), .bin .eql (.t 14) (.t 16)⟩,
    ⟨(some 18), none, .pick (.t 12) (.t 17) (.c (.g (.bool false)))⟩,
    ⟨(some 19), none, .mov (.t 18)⟩,
    ⟨(some 20), (some (19, true)), .mov (.t 1)⟩,
    ⟨(some 21), (some (19, true)), .mov (.t 2)⟩,
    ⟨(some 22), (some (19, true)), .call (.c (.g (.fn 40))) [(.t 20), (.t 21)]⟩,
    ⟨(some 23), (some (19, true)), .mov (.t 1)⟩,
    ⟨(some 24), (some (19, true)), .mov (.t 2)⟩,
    ⟨(some 25), (some (19, true)), .call (.c (.g (.fn 41))) [(.t 23), (.t 24)]⟩,
    ⟨(some 26), (some (19, true)), .bin .eql (.t 22) (.t 25)⟩,
    ⟨(some 27), none, .pick (.t 19) (.t 26) (.c (.g (.bool false)))⟩,
    ⟨(some 28), none, .mov (.t 27)⟩,
    ⟨(some 29), (some (28, true)), .mov (.t 1)⟩,
    ⟨(some 30), (some (28, true)), .mov (.t 2)⟩,
    ⟨(some 31), (some (28, true)), .call (.c (.g (.fn 42))) [(.t 29), (.t 30)]⟩,
    ⟨(some 32), (some (28, true)), .mov (.t 1)⟩,
    ⟨(some 33), (some (28, true)), .mov (.t 2)⟩,
    ⟨(some 34), (some (28, true)), .call (.c (.g (.fn 43))) [(.t 32), (.t 33)]⟩,
    ⟨(some 35), (some (28, true)), .bin .eql (.t 31) (.t 34)⟩,
    ⟨(some 36), none, .pick (.t 28) (.t 35) (.c (.g (.bool false)))⟩,
    ⟨(some 37), none, .mov (.t 36)⟩,
    ⟨(some 38), (some (37, true)), .call (.c (.g (.fn 31))) []⟩,
    ⟨(some 39), none, .pick (.t 37) (.t 38) (.c (.g (.bool false)))⟩,
    ⟨(some 6), none, .mov (.t 39)⟩]) <|
 .ret⟩
def h8 : List (List Nat) := [[0, 1, 2], [6]]
theorem c8 : cFunc Try.prog 8 false h8 = some F8 := by kernel_rfl

/-- baton/batonlaw01.ShiftReads -/
def F9 : IFunc := ⟨3, 54, [.tmp 6], false,
 .seq (.reg [0, 1, 2] [⟨(some 6), none, .mov (.c (.g (.bool false)))⟩]) <|
 .seq (.seq (.reg [0, 1, 2, 15] [⟨(some 13), none, .mov (.t 1)⟩,
     ⟨(some 14), none, .lenS (.t 13)⟩,
     ⟨(some 15), none, .bin .gtr (.t 14) (.c (.g (.int .i64 60)))⟩]) <|
  .cond [0, 1, 2] (.t 15)
   (.seq (.reg [6] [⟨(some 16), none, .call (.c (.g (.fn 31))) []⟩,
       ⟨(some 6), none, .mov (.t 16)⟩]) <|
    .ret)
   (.skip)) <|
 .seq (.reg [0, 1, 2, 7, 8, 9] [⟨(some 18), none, .mov (.t 1)⟩,
    ⟨(some 19), none, .mov (.t 2)⟩,
    ⟨(some 20), none, .call (.c (.g (.fn 44))) [(.t 18), (.t 19)]⟩,
    ⟨(some 17), none, .mov (.t 20)⟩,
    ⟨(some 21), none, .ext 0 (.t 17)⟩,
    ⟨(some 22), none, .ext 1 (.t 17)⟩,
    ⟨(some 23), none, .ext 2 (.t 17)⟩,
    ⟨(some 7), none, .mov (.t 21)⟩,
    ⟨(some 8), none, .mov (.t 22)⟩,
    ⟨(some 9), none, .mov (.t 23)⟩]) <|
 .seq (.reg [0, 7, 8, 9, 10, 11, 12] [⟨(some 25), none, .mov (.t 1)⟩,
    ⟨(some 26), none, .mov (.t 2)⟩,
    ⟨(some 27), none, .call (.c (.g (.fn 45))) [(.t 25), (.t 26)]⟩,
    ⟨(some 24), none, .mov (.t 27)⟩,
    ⟨(some 28), none, .ext 0 (.t 24)⟩,
    ⟨(some 29), none, .ext 1 (.t 24)⟩,
    ⟨(some 30), none, .ext 2 (.t 24)⟩,
    ⟨(some 10), none, .mov (.t 28)⟩,
    ⟨(some 11), none, .mov (.t 29)⟩,
    ⟨(some 12), none, .mov (.t 30)⟩]) <|
 .seq (.reg [6] [⟨(some 31), none, .mov (.t 0)⟩,
    ⟨(some 32), none, .call (.c (.g (.fn 46))) [(.t 31)]⟩,
    ⟨(some 33), none, .mov (.t 0)⟩,
    ⟨(some 34), none, .call (.c (.g (.fn 47))) [(.t 33)]⟩,
    ⟨(some 35), none, .bin .eql (.t 32) (.t 34)⟩,
    ⟨(some 36), none, .mov (.t 35)⟩,
    ⟨(some 37), (some (36, true)), .mov (.t 7)⟩,
    ⟨(some 38), (some (36, true)), .mov (.t 10)⟩,
    ⟨(some 39), (some (36, true)), .bin .eql (.t 37) (.t 38)⟩,
    ⟨(some 40), none, .pick (.t 36) (.t 39) (.c (.g (.bool false)))⟩,
    ⟨(some 41), none, .mov (.t 40)⟩,
    ⟨(some 42), (some (41, true)), .mov (.t 8)⟩,
    ⟨(some 43), (some (41, true)), .mov (.t 11)⟩,
    ⟨(some 44), (some (41, true)), .bin .eql (.t 42) (.t 43)⟩,
    ⟨(some 45), none, .pick (.t 41) (.t 44) (.c (.g (.bool false)))⟩,
    ⟨(some 46), none, .mov (.t 45)⟩,
    ⟨(some 47), (some (46, true)), .mov (.t 9)⟩,
    ⟨(some 48), (some (46, true)), .mov (.t 12)⟩,
    ⟨(some 49), (some (46, true)), .bin .eql (.t 47) (.t 48)⟩,
    ⟨(some 50), none, .pick (.t 46) (.t 49) (.c (.g (.bool false)))⟩,
    ⟨(some 51), none, .mov (.t 50)⟩,
    ⟨(some 52), (some (51, true)), .call (.c (.g (.fn 31))) []⟩,
    ⟨(some 53), none, .pick (.t 51) (.t 52) (.c (.g (.bool false)))⟩,
    ⟨(some 6), none, .mov (.t 53)⟩]) <|
 .ret⟩
def h9 : List (List Nat) := [[0, 1, 2], [0, 1, 2, 15], [0, 1, 2], [6], [0, 1, 2, 7, 8, 9], [0, 7, 8, 9, 10, 11, 12], [6]]
theorem c9 : cFunc Try.prog 9 false h9 = some F9 := by kernel_rfl

/-- baton/batonlaw01.ShiftBack -/
def F10 : IFunc := ⟨3, 101, [.tmp 6], false,
 .seq (.reg [0, 1, 2] [⟨(some 6), none, .mov (.c (.g (.bool false)))⟩]) <|
 .seq (.seq (.reg [0, 1, 2, 16] [⟨(some 14), none, .mov (.t 1)⟩,
     ⟨(some 15), none, .lenS (.t 14)⟩,
     ⟨(some 16), none, .bin .gtr (.t 15) (.c (.g (.int .i64 60)))⟩]) <|
  .cond [0, 1, 2] (.t 16)
   (.seq (.reg [6] [⟨(some 17), none, .call (.c (.g (.fn 31))) []⟩,
       ⟨(some 6), none, .mov (.t 17)⟩]) <|
    .ret)
   (.skip)) <|
 .seq (.reg [0, 1, 2, 7] [⟨(some 18), none, .mov (.t 0)⟩,
    ⟨(some 19), none, .call (.c (.g (.fn 46))) [(.t 18)]⟩,
    ⟨(some 7), none, .mov (.t 19)⟩]) <|
 .seq (.reg [0, 1, 2, 7, 8, 9, 10] [⟨(some 21), none, .mov (.t 1)⟩,
    ⟨(some 22), none, .mov (.t 7)⟩,
    ⟨(some 23), none, .bin .add (.t 21) (.t 22)⟩,
    ⟨(some 24), none, .mov (.t 1)⟩,
    ⟨(some 25), none, .bin .add (.t 23) (.t 24)⟩,
    ⟨(some 26), none, .mov (.t 1)⟩,
    ⟨(some 27), none, .lenS (.t 26)⟩,
    ⟨(some 28), none, .call (.c (.g (.fn 44))) [(.t 25), (.t 27)]⟩,
    ⟨(some 20), none, .mov (.t 28)⟩,
    ⟨(some 29), none, .ext 0 (.t 20)⟩,
    ⟨(some 30), none, .ext 1 (.t 20)⟩,
    ⟨(some 31), none, .ext 2 (.t 20)⟩,
    ⟨(some 8), none, .mov (.t 29)⟩,
    ⟨(some 9), none, .mov (.t 30)⟩,
    ⟨(some 10), none, .mov (.t 31)⟩]) <|
 .seq (.seq (.reg [1, 2, 57] [⟨(some 32), none, .mov (.t 8)⟩,
     ⟨(some 33), none, .mov (.t 0)⟩,
     ⟨(some 34), none, .bin .neq (.t 32) (.t 33)⟩,
     ⟨(some 35), none, .mov (.t 34)⟩,
     ⟨(some 36), (some (35, false)), .mov (.t 9)⟩,
     ⟨(some 37), (some (35, false)), .mov (.t 1)⟩,
     ⟨(some 38), (some (35, false)), .lenS (.t 37)⟩,
     ⟨(some 39), (some (35, false)), .mov (.t 7)⟩,
     ⟨(some 40), (some (35, false)), .lenS (.t 39)⟩,
     ⟨(some 41), (some (35, false)), .bin .add (.t 38) (.t 40)⟩,
     ⟨(some 42), (some (35, false)), .bin .neq (.t 36) (.t 41)⟩,
     ⟨(some 43), none, .pick (.t 35) (.c (.g (.bool true))) (.t 42)⟩,
     ⟨(some 44), none, .mov (.t 43)⟩,
     ⟨(some 45), (some (44, false)), .mov (.t 10)⟩,
     ⟨(some 46), (some (44, false)), .bin .neq (.t 45) (.c (.g (.int .i64 0)))⟩,
     ⟨(some 47), none, .pick (.t 44) (.c (.g (.bool true))) (.t 46)⟩,
     ⟨(some 48), none, .mov (.t 47)⟩,
     ⟨(some 49), (some (48, false)), .mov (.t 7)⟩,
     ⟨(some 50), (some (48, false)), .lenS (.t 49)⟩,
     ⟨(some 51), (some (48, false)), .bin .lss (.t 50) (.c (.g (.int .i64 1)))⟩,
     ⟨(some 52), none, .pick (.t 48) (.c (.g (.bool true))) (.t 51)⟩,
     ⟨(some 53), none, .mov (.t 52)⟩,
     ⟨(some 54), (some (53, false)), .mov (.t 7)⟩,
     ⟨(some 55), (some (53, false)), .lenS (.t 54)⟩,
     ⟨(some 56), (some (53, false)), .bin .gtr (.t 55) (.c (.g (.int .i64 10)))⟩,
     ⟨(some 57), none, .pick (.t 53) (.c (.g (.bool true))) (.t 56)⟩]) <|
  .cond [1, 2] (.t 57)
   (.seq (.reg [6] [⟨(some 6), none, .mov (.c (.g (.bool false)))⟩]) <|
    .ret)
   (.skip)) <|
 .seq (.reg [1, 2, 11, 12, 13] [⟨(some 59), none, .mov (.t 1)⟩,
    ⟨(some 60), none, .mov (.t 2)⟩,
    ⟨(some 61), none, .call (.c (.g (.fn 44))) [(.t 59), (.t 60)]⟩,
    ⟨(some 58), none, .mov (.t 61)⟩,
    ⟨(some 62), none, .ext 0 (.t 58)⟩,
    ⟨(some 63), none, .ext 1 (.t 58)⟩,
    ⟨(some 64), none, .ext 2 (.t 58)⟩,
    ⟨(some 11), none, .mov (.t 62)⟩,
    ⟨(some 12), none, .mov (.t 63)⟩,
    ⟨(some 13), none, .mov (.t 64)⟩]) <|
 .seq (.seq (.reg [1, 2, 11, 12, 66] [⟨(some 65), none, .mov (.t 13)⟩,
     ⟨(some 66), none, .bin .neq (.t 65) (.c (.g (.int .i64 0)))⟩]) <|
  .cond [1, 2, 11, 12] (.t 66)
   (.seq (.reg [6] [⟨(some 67), none, .mov (.t 11)⟩,
       ⟨(some 68), none, .bin .eql (.t 67) (.c (.g (.int .u64 0)))⟩,
       ⟨(some 69), none, .mov (.t 68)⟩,
       ⟨(some 70), (some (69, true)), .mov (.t 12)⟩,
       ⟨(some 71), (some (69, true)), .bin .eql (.t 70) (.c (.g (.int .i64 0)))⟩,
       ⟨(some 72), none, .pick (.t 69) (.t 71) (.c (.g (.bool false)))⟩,
       ⟨(some 73), none, .mov (.t 72)⟩,
       ⟨(some 74), (some (73, true)), .call (.c (.g (.fn 31))) []⟩,
       ⟨(some 75), none, .pick (.t 73) (.t 74) (.c (.g (.bool false)))⟩,
       ⟨(some 6), none, .mov (.t 75)⟩]) <|
    .ret)
   (.skip)) <|
 .seq (.drw [6] 0 <|
  .free <|
  .take ⟨(some 76), none, .mov (.t 2)⟩ <|
  .take ⟨(some 77), none, .bin .geq (.t 76) (.c (.g (.int .i64 0)))⟩ <|
  .take ⟨(some 78), none, .mov (.t 77)⟩ <|
  .take ⟨(some 79), (some (78, true)), .mov (.t 12)⟩ <|
  .take ⟨(some 80), (some (78, true)), .mov (.t 2)⟩ <|
  .take ⟨(some 81), (some (78, true)), .bin .gtr (.t 79) (.t 80)⟩ <|
  .take ⟨(some 82), none, .pick (.t 78) (.t 81) (.c (.g (.bool false)))⟩ <|
  .take ⟨(some 83), none, .mov (.t 82)⟩ <|
  .take ⟨(some 84), (some (83, true)), .mov (.t 12)⟩ <|
  .take ⟨(some 85), (some (83, true)), .mov (.t 1)⟩ <|
  .take ⟨(some 86), (some (83, true)), .lenS (.t 85)⟩ <|
  .take ⟨(some 87), (some (83, true)), .bin .leq (.t 84) (.t 86)⟩ <|
  .take ⟨(some 88), none, .pick (.t 83) (.t 87) (.c (.g (.bool false)))⟩ <|
  .take ⟨(some 89), none, .mov (.t 88)⟩ <|
  .take ⟨(some 90), (some (89, true)), .mov (.t 11)⟩ <|
  .take ⟨(some 92), (some (89, true)), .mov (.t 1)⟩ <|
  .take ⟨(some 93), (some (89, true)), .mov (.t 2)⟩ <|
  .take ⟨(some 94), (some (89, true)), .mov (.t 12)⟩ <|
  .take ⟨(some 95), (some (89, true)), .slcS (.t 92) (some (.t 93)) (some (.t 94))⟩ <|
  .one ⟨(some 91), (some (89, true)), .call (.c (.g (.fn 46))) [(.t 90)]⟩ <|
  .take ⟨(some 96), (some (89, true)), .bin .eql (.t 91) (.t 95)⟩ <|
  .take ⟨(some 97), none, .pick (.t 89) (.t 96) (.c (.g (.bool false)))⟩ <|
  .take ⟨(some 98), none, .mov (.t 97)⟩ <|
  .one ⟨(some 99), (some (98, true)), .call (.c (.g (.fn 31))) []⟩ <|
  .take ⟨(some 100), none, .pick (.t 98) (.t 99) (.c (.g (.bool false)))⟩ <|
  .take ⟨(some 6), none, .mov (.t 100)⟩ <|
  .leaf) <|
 .ret⟩
def h10 : List (List Nat) := [[0, 1, 2], [0, 1, 2, 16], [0, 1, 2], [6], [0, 1, 2, 7], [0, 1, 2, 7, 8, 9, 10], [1, 2, 57], [1, 2], [6], [1, 2, 11, 12, 13], [1, 2, 11, 12, 66], [1, 2, 11, 12], [6], [6]]
theorem c10 : cFunc Try.prog 10 false h10 = some F10 := by kernel_rfl

/-- baton/batonlaw01.ShiftTurns -/
def F11 : IFunc := ⟨2, 60, [.tmp 4], false,
 .seq (.reg [0, 1] [⟨(some 4), none, .mov (.c (.g (.bool false)))⟩]) <|
 .seq (.reg [0, 1, 5, 6] [⟨(some 8), none, .mov (.t 1)⟩,
    ⟨(some 9), none, .call (.c (.g (.fn 34))) [(.t 8), (.c (.g (.int .i64 8)))]⟩,
    ⟨(some 10), none, .call (.c (.g (.fn 32))) [(.t 9)]⟩,
    ⟨(some 7), none, .mov (.t 10)⟩,
    ⟨(some 11), none, .ext 0 (.t 7)⟩,
    ⟨(some 12), none, .ext 1 (.t 7)⟩,
    ⟨(some 5), none, .mov (.t 11)⟩,
    ⟨(some 6), none, .mov (.t 12)⟩]) <|
 .seq (.reg [4] [⟨(some 13), none, .mov (.t 0)⟩,
    ⟨(some 14), none, .call (.c (.g (.fn 36))) [(.t 13)]⟩,
    ⟨(some 15), none, .call (.c (.g (.fn 38))) [(.t 14)]⟩,
    ⟨(some 16), none, .mov (.t 0)⟩,
    ⟨(some 17), none, .bin .eql (.t 15) (.t 16)⟩,
    ⟨(some 18), none, .mov (.t 17)⟩,
    ⟨(some 19), (some (18, true)), .mov (.t 1)⟩,
    ⟨(some 20), (some (18, true)), .call (.c (.g (.fn 38))) [(.t 19)]⟩,
    ⟨(some 21), (some (18, true)), .call (.c (.g (.fn 36))) [(.t 20)]⟩,
    ⟨(some 22), (some (18, true)), .mov (.t 1)⟩,
    ⟨(some 23), (some (18, true)), .bin .eql (.t 21) (.t 22)⟩,
    ⟨(some 24), none, .pick (.t 18) (.t 23) (.c (.g (.bool false)))⟩,
    ⟨(some 25), none, .mov (.t 24)⟩,
    ⟨(some 26), (some (25, true)), .mov (.t 5)⟩,
    ⟨(some 27), (some (25, true)), .mov (.t 1)⟩,
    ⟨(some 28), (some (25, true)), .bin .eql (.t 26) (.t 27)⟩,
    ⟨(some 29), none, .pick (.t 25) (.t 28) (.c (.g (.bool false)))⟩,
    ⟨(some 30), none, .mov (.t 29)⟩,
    ⟨(some 31), (some (30, true)), .mov (.t 6)⟩,
    ⟨(some 32), none, .pick (.t 30) (.t 31) (.c (.g (.bool false)))⟩,
    ⟨(some 33), none, .mov (.t 32)⟩,
    ⟨(some 34), (some (33, true)), .mov (.t 0)⟩,
    ⟨(some 35), (some (33, true)), .conv .u64 (.t 34)⟩,
    ⟨(some 36), (some (33, true)), .call (.c (.g (.fn 42))) [(.t 35), (.c (.g (.int .i64 64)))]⟩,
    ⟨(some 37), (some (33, true)), .mov (.t 0)⟩,
    ⟨(some 38), (some (33, true)), .bin .eql (.t 36) (.t 37)⟩,
    ⟨(some 39), none, .pick (.t 33) (.t 38) (.c (.g (.bool false)))⟩,
    ⟨(some 40), none, .mov (.t 39)⟩,
    ⟨(some 41), (some (40, true)), .mov (.t 1)⟩,
    ⟨(some 42), (some (40, true)), .call (.c (.g (.fn 40))) [(.t 41), (.c (.g (.int .i64 40)))]⟩,
    ⟨(some 43), (some (40, true)), .call (.c (.g (.fn 40))) [(.t 42), (.c (.g (.int .i64 12)))]⟩,
    ⟨(some 44), (some (40, true)), .mov (.t 1)⟩,
    ⟨(some 45), (some (40, true)), .call (.c (.g (.fn 40))) [(.t 44), (.c (.g (.int .i64 12)))]⟩,
    ⟨(some 46), (some (40, true)), .bin .eql (.t 43) (.t 45)⟩,
    ⟨(some 47), none, .pick (.t 40) (.t 46) (.c (.g (.bool false)))⟩,
    ⟨(some 48), none, .mov (.t 47)⟩,
    ⟨(some 49), (some (48, true)), .mov (.t 0)⟩,
    ⟨(some 50), (some (48, true)), .conv .u64 (.t 49)⟩,
    ⟨(some 51), (some (48, true)), .call (.c (.g (.fn 42))) [(.t 50), (.c (.g (.int .i64 32)))]⟩,
    ⟨(some 52), (some (48, true)), .mov (.t 0)⟩,
    ⟨(some 53), (some (48, true)), .conv .i32 (.t 52)⟩,
    ⟨(some 54), (some (48, true)), .conv .i64 (.t 53)⟩,
    ⟨(some 55), (some (48, true)), .bin .eql (.t 51) (.t 54)⟩,
    ⟨(some 56), none, .pick (.t 48) (.t 55) (.c (.g (.bool false)))⟩,
    ⟨(some 57), none, .mov (.t 56)⟩,
    ⟨(some 58), (some (57, true)), .call (.c (.g (.fn 31))) []⟩,
    ⟨(some 59), none, .pick (.t 57) (.t 58) (.c (.g (.bool false)))⟩,
    ⟨(some 4), none, .mov (.t 59)⟩]) <|
 .ret⟩
def h11 : List (List Nat) := [[0, 1], [0, 1, 5, 6], [4]]
theorem c11 : cFunc Try.prog 11 false h11 = some F11 := by kernel_rfl

/-- baton/batonlaw01.ShiftWho -/
def F12 : IFunc := ⟨3, 65, [.tmp 6], false,
 .seq (.reg [0, 1, 2] [⟨(some 6), none, .mov (.c (.g (.bool false)))⟩]) <|
 .seq (.reg [0, 1, 2, 7, 8] [⟨(some 15), none, .mov (.t 2)⟩,
    ⟨(some 16), none, .call (.c (.g (.fn 48))) [(.t 15)]⟩,
    ⟨(some 14), none, .mov (.t 16)⟩,
    ⟨(some 17), none, .ext 0 (.t 14)⟩,
    ⟨(some 18), none, .ext 1 (.t 14)⟩,
    ⟨(some 7), none, .mov (.t 17)⟩,
    ⟨(some 8), none, .mov (.t 18)⟩]) <|
 .seq (.reg [0, 1, 7, 8, 9, 10] [⟨(some 20), none, .mov (.t 2)⟩,
    ⟨(some 21), none, .call (.c (.g (.fn 49))) [(.t 20)]⟩,
    ⟨(some 19), none, .mov (.t 21)⟩,
    ⟨(some 22), none, .ext 0 (.t 19)⟩,
    ⟨(some 23), none, .ext 1 (.t 19)⟩,
    ⟨(some 9), none, .mov (.t 22)⟩,
    ⟨(some 10), none, .mov (.t 23)⟩]) <|
 .seq (.reg [0, 1, 7, 8, 9, 10, 11] [⟨(some 24), none, .mov (.t 0)⟩,
    ⟨(some 25), none, .mov (.t 1)⟩,
    ⟨(some 26), none, .call (.c (.g (.fn 50))) [(.t 24), (.t 25)]⟩,
    ⟨(some 11), none, .mov (.t 26)⟩]) <|
 .seq (.seq (.reg [0, 1, 11, 41] [⟨(some 27), none, .mov (.t 7)⟩,
     ⟨(some 28), none, .mov (.t 9)⟩,
     ⟨(some 29), none, .bin .neq (.t 27) (.t 28)⟩,
     ⟨(some 30), none, .mov (.t 29)⟩,
     ⟨(some 31), (some (30, false)), .mov (.t 8)⟩,
     ⟨(some 32), (some (30, false)), .mov (.t 10)⟩,
     ⟨(some 33), (some (30, false)), .bin .neq (.t 31) (.t 32)⟩,
     ⟨(some 34), none, .pick (.t 30) (.c (.g (.bool true))) (.t 33)⟩,
     ⟨(some 35), none, .mov (.t 34)⟩,
     ⟨(some 36), (some (35, false)), .mov (.t 11)⟩,
     ⟨(some 37), (some (35, false)), .mov (.t 0)⟩,
     ⟨(some 38), (some (35, false)), .mov (.t 1)⟩,
     ⟨(some 39), (some (35, false)), .call (.c (.g (.fn 51))) [(.t 37), (.t 38)]⟩,
     ⟨(some 40), (some (35, false)), .bin .neq (.t 36) (.t 39)⟩,
     ⟨(some 41), none, .pick (.t 35) (.c (.g (.bool true))) (.t 40)⟩]) <|
  .cond [0, 1, 11] (.t 41)
   (.seq (.reg [6] [⟨(some 6), none, .mov (.c (.g (.bool false)))⟩]) <|
    .ret)
   (.skip)) <|
 .seq (.seq (.reg [0, 1, 11, 43] [⟨(some 42), none, .mov (.t 11)⟩,
     ⟨(some 43), none, .bin .lss (.t 42) (.c (.g (.int .i64 0)))⟩]) <|
  .cond [0, 1, 11] (.t 43)
   (.seq (.reg [6] [⟨(some 44), none, .mov (.t 11)⟩,
       ⟨(some 45), none, .bin .eql (.t 44) (.c (.g (.int .i64 (-1))))⟩,
       ⟨(some 46), none, .mov (.t 45)⟩,
       ⟨(some 47), (some (46, true)), .call (.c (.g (.fn 31))) []⟩,
       ⟨(some 48), none, .pick (.t 46) (.t 47) (.c (.g (.bool false)))⟩,
       ⟨(some 6), none, .mov (.t 48)⟩]) <|
    .ret)
   (.skip)) <|
 .seq (.reg [0, 1, 12, 13] [⟨(some 50), none, .mov (.t 11)⟩,
    ⟨(some 51), none, .call (.c (.g (.fn 48))) [(.t 50)]⟩,
    ⟨(some 49), none, .mov (.t 51)⟩,
    ⟨(some 52), none, .ext 0 (.t 49)⟩,
    ⟨(some 53), none, .ext 1 (.t 49)⟩,
    ⟨(some 12), none, .mov (.t 52)⟩,
    ⟨(some 13), none, .mov (.t 53)⟩]) <|
 .seq (.reg [6] [⟨(some 54), none, .mov (.t 12)⟩,
    ⟨(some 55), none, .mov (.t 0)⟩,
    ⟨(some 56), none, .bin .eql (.t 54) (.t 55)⟩,
    ⟨(some 57), none, .mov (.t 56)⟩,
    ⟨(some 58), (some (57, true)), .mov (.t 13)⟩,
    ⟨(some 59), (some (57, true)), .mov (.t 1)⟩,
    ⟨(some 60), (some (57, true)), .bin .eql (.t 58) (.t 59)⟩,
    ⟨(some 61), none, .pick (.t 57) (.t 60) (.c (.g (.bool false)))⟩,
    ⟨(some 62), none, .mov (.t 61)⟩,
    ⟨(some 63), (some (62, true)), .call (.c (.g (.fn 31))) []⟩,
    ⟨(some 64), none, .pick (.t 62) (.t 63) (.c (.g (.bool false)))⟩,
    ⟨(some 6), none, .mov (.t 64)⟩]) <|
 .ret⟩
def h12 : List (List Nat) := [[0, 1, 2], [0, 1, 2, 7, 8], [0, 1, 7, 8, 9, 10], [0, 1, 7, 8, 9, 10, 11], [0, 1, 11, 41], [0, 1, 11], [6], [0, 1, 11, 43], [0, 1, 11], [6], [0, 1, 12, 13], [6]]
theorem c12 : cFunc Try.prog 12 false h12 = some F12 := by kernel_rfl

/-- baton/batonlaw01.ShiftOrder -/
def F13 : IFunc := ⟨3, 85, [.tmp 6], false,
 .seq (.reg [0, 1, 2] [⟨(some 6), none, .mov (.c (.g (.bool false)))⟩]) <|
 .seq (.reg [0, 1, 2, 7] [⟨(some 11), none, .mov (.t 0)⟩,
    ⟨(some 12), none, .call (.c (.g (.fn 34))) [(.t 11), (.c (.g (.int .i64 8)))]⟩,
    ⟨(some 7), none, .mov (.t 12)⟩]) <|
 .seq (.reg [0, 1, 2, 7, 8] [⟨(some 13), none, .mov (.t 1)⟩,
    ⟨(some 14), none, .call (.c (.g (.fn 34))) [(.t 13), (.c (.g (.int .i64 8)))]⟩,
    ⟨(some 8), none, .mov (.t 14)⟩]) <|
 .seq (.seq (.reg [0, 2, 44] [⟨(some 15), none, .mov (.t 7)⟩,
     ⟨(some 16), none, .mov (.t 8)⟩,
     ⟨(some 17), none, .bin .lss (.t 15) (.t 16)⟩,
     ⟨(some 18), none, .mov (.t 0)⟩,
     ⟨(some 19), none, .mov (.t 1)⟩,
     ⟨(some 20), none, .bin .lss (.t 18) (.t 19)⟩,
     ⟨(some 21), none, .eqs true false [.b] (.t 17) (.t 20)⟩,
     ⟨(some 22), none, .mov (.t 21)⟩,
     ⟨(some 23), (some (22, false)), .mov (.t 7)⟩,
     ⟨(some 24), (some (22, false)), .mov (.t 8)⟩,
     ⟨(some 25), (some (22, false)), .bin .eql (.t 23) (.t 24)⟩,
     ⟨(some 26), (some (22, false)), .mov (.t 0)⟩,
     ⟨(some 27), (some (22, false)), .mov (.t 1)⟩,
     ⟨(some 28), (some (22, false)), .bin .eql (.t 26) (.t 27)⟩,
     ⟨(some 29), (some (22, false)), .eqs true false [.b] (.t 25) (.t 28)⟩,
     ⟨(some 30), none, .pick (.t 22) (.c (.g (.bool true))) (.t 29)⟩,
     ⟨(some 31), none, .mov (.t 30)⟩,
     ⟨(some 32), (some (31, false)), .mov (.t 0)⟩,
     ⟨(some 33), (some (31, false)), .mov (.t 1)⟩,
     ⟨(some 34), (some (31, false)), .bin .leq (.t 32) (.t 33)⟩,
     ⟨(some 35), (some (31, false)), .mov (.t 34)⟩,
     ⟨(some 36), (some (35, true)), .mov (.t 0)⟩,
     ⟨(some 37), (some (35, true)), .call (.c (.g (.fn 46))) [(.t 36)]⟩,
     ⟨(some 38), (some (35, true)), .lenS (.t 37)⟩,
     ⟨(some 39), (some (35, true)), .mov (.t 1)⟩,
     ⟨(some 40), (some (35, true)), .call (.c (.g (.fn 46))) [(.t 39)]⟩,
     ⟨(some 41), (some (35, true)), .lenS (.t 40)⟩,
     ⟨(some 42), (some (35, true)), .bin .gtr (.t 38) (.t 41)⟩,
     ⟨(some 43), (some (31, false)), .pick (.t 35) (.t 42) (.c (.g (.bool false)))⟩,
     ⟨(some 44), none, .pick (.t 31) (.c (.g (.bool true))) (.t 43)⟩]) <|
  .cond [0, 2] (.t 44)
   (.seq (.reg [6] [⟨(some 6), none, .mov (.c (.g (.bool false)))⟩]) <|
    .ret)
   (.skip)) <|
 .seq (.seq (.reg [0, 2, 50] [⟨(some 45), none, .mov (.t 2)⟩,
     ⟨(some 46), none, .bin .lss (.t 45) (.c (.g (.int .i64 0)))⟩,
     ⟨(some 47), none, .mov (.t 46)⟩,
     ⟨(some 48), (some (47, false)), .mov (.t 2)⟩,
     ⟨(some 49), (some (47, false)), .bin .gtr (.t 48) (.c (.g (.int .i64 8)))⟩,
     ⟨(some 50), none, .pick (.t 47) (.c (.g (.bool true))) (.t 49)⟩]) <|
  .cond [0, 2] (.t 50)
   (.seq (.reg [6] [⟨(some 51), none, .mov (.t 0)⟩,
       ⟨(some 52), none, .mov (.t 2)⟩,
       ⟨(some 53), none, .call (.c (.g (.fn 34))) [(.t 51), (.t 52)]⟩,
       ⟨(some 54), none, .bin .eql (.t 53) (.c (.g (.str [])))⟩,
       ⟨(some 55), none, .mov (.t 54)⟩,
       ⟨(some 56), (some (55, true)), .call (.c (.g (.fn 31))) []⟩,
       ⟨(some 57), none, .pick (.t 55) (.t 56) (.c (.g (.bool false)))⟩,
       ⟨(some 6), none, .mov (.t 57)⟩]) <|
    .ret)
   (.skip)) <|
 .seq (.reg [0, 2, 9, 10] [⟨(some 59), none, .mov (.t 0)⟩,
    ⟨(some 60), none, .mov (.t 2)⟩,
    ⟨(some 61), none, .call (.c (.g (.fn 34))) [(.t 59), (.t 60)]⟩,
    ⟨(some 62), none, .call (.c (.g (.fn 32))) [(.t 61)]⟩,
    ⟨(some 58), none, .mov (.t 62)⟩,
    ⟨(some 63), none, .ext 0 (.t 58)⟩,
    ⟨(some 64), none, .ext 1 (.t 58)⟩,
    ⟨(some 9), none, .mov (.t 63)⟩,
    ⟨(some 10), none, .mov (.t 64)⟩]) <|
 .seq (.reg [6] [⟨(some 65), none, .mov (.t 10)⟩,
    ⟨(some 66), none, .mov (.t 65)⟩,
    ⟨(some 67), (some (66, true)), .mov (.t 9)⟩,
    ⟨(some 68), (some (66, true)), .mov (.t 0)⟩,
    ⟨(some 69), (some (66, true)), .mov (.t 2)⟩,
    ⟨(some 70), (some (66, true)), .bin .mul (.c (.g (.int .i64 8))) (.t 69)⟩,
    ⟨(some 71), (some (66, true)), .call (.c (.g (.fn 40))) [(.t 68), (.t 70)]⟩,
    ⟨(some 72), (some (66, true)), .bin .eql (.t 67) (.t 71)⟩,
    ⟨(some 73), none, .pick (.t 66) (.t 72) (.c (.g (.bool false)))⟩,
    ⟨(some 74), none, .mov (.t 73)⟩,
    ⟨(some 75), (some (74, true)), .mov (.t 0)⟩,
    ⟨(some 76), (some (74, true)), .mov (.t 2)⟩,
    ⟨(some 77), (some (74, true)), .call (.c (.g (.fn 34))) [(.t 75), (.t 76)]⟩,
    ⟨(some 78), (some (74, true)), .lenS (.t 77)⟩,
    ⟨(some 79), (some (74, true)), .mov (.t 2)⟩,
    ⟨(some 80), (some (74, true)), .bin .eql (.t 78) (.t 79)⟩,
    ⟨(some 81), none, .pick (.t 74) (.t 80) (.c (.g (.bool false)))⟩,
    ⟨(some 82), none, .mov (.t 81)⟩,
    ⟨(some 83), (some (82, true)), .call (.c (.g (.fn 31))) []⟩,
    ⟨(some 84), none, .pick (.t 82) (.t 83) (.c (.g (.bool false)))⟩,
    ⟨(some 6), none, .mov (.t 84)⟩]) <|
 .ret⟩
def h13 : List (List Nat) := [[0, 1, 2], [0, 1, 2, 7], [0, 1, 2, 7, 8], [0, 2, 44], [0, 2], [6], [0, 2, 50], [0, 2], [6], [0, 2, 9, 10], [6]]
theorem c13 : cFunc Try.prog 13 false h13 = some F13 := by kernel_rfl

/-- baton/batonref03.Few -/
def L14_0 : IC :=
 .seq (.seq (.reg [0, 5, 13] [⟨(some 10), none, .mov (.t 5)⟩,
     ⟨(some 11), none, .mov (.t 0)⟩,
     ⟨(some 12), none, .len (.t 11)⟩,
     ⟨(some 13), none, .bin .lss (.t 10) (.t 12)⟩]) <|
  .cond [0, 5] (.t 13)
   (.skip)
   (.exit 0)) <|
 .seq (.block [0, 5] 1 <|
  .seq (.reg [0, 5, 31] [⟨(some 16), none, .mov (.t 0)⟩,
     ⟨(some 17), none, .mov (.t 5)⟩,
     ⟨(some 18), none, .iaddr 6 (.t 16) (.t 17)⟩,
     ⟨(some 19), none, .faddr 0 (.t 18)⟩,
     ⟨(some 20), none, .load false 1 (.t 19)⟩,
     ⟨(some 21), none, .lenS (.t 20)⟩,
     ⟨(some 22), none, .bin .gtr (.t 21) (.c (.g (.int .i64 60)))⟩,
     ⟨(some 23), none, .mov (.t 22)⟩,
     ⟨(some 24), (some (23, false)), .mov (.t 0)⟩,
     ⟨(some 25), (some (23, false)), .mov (.t 5)⟩,
     ⟨(some 26), (some (23, false)), .iaddr 6 (.t 24) (.t 25)⟩,
     ⟨(some 27), (some (23, false)), .faddr 1 (.t 26)⟩,
     ⟨(some 28), (some (23, false)), .load false 1 (.t 27)⟩,
     ⟨(some 29), (some (23, false)), .lenS (.t 28)⟩,
     ⟨(some 30), (some (23, false)), .bin .gtr (.t 29) (.c (.g (.int .i64 60)))⟩,
     ⟨(some 31), none, .pick (.t 23) (.c (.g (.bool true))) (.t 30)⟩]) <|
  .cond [0, 5] (.t 31)
   (.seq (.reg [4] [⟨(some 4), none, .mov (.c (.g (.bool false)))⟩]) <|
    .ret)
   (.skip)) <|
 .reg [0, 5] [⟨(some 14), none, .mov (.t 5)⟩,
   ⟨(some 15), none, .bin .add (.t 14) (.c (.g (.int .i64 1)))⟩,
   ⟨(some 5), none, .mov (.t 15)⟩]
def F14 : IFunc := ⟨2, 32, [.tmp 4], false,
 .seq (.reg [0, 1] [⟨(some 4), none, .mov (.c (.g (.bool false)))⟩]) <|
 .seq (.seq (.reg [0, 9] [⟨(some 6), none, .mov (.t 0)⟩,
     ⟨(some 7), none, .len (.t 6)⟩,
     ⟨(some 8), none, .mov (.t 1)⟩,
     ⟨(some 9), none, .bin .gtr (.t 7) (.t 8)⟩]) <|
  .cond [0] (.t 9)
   (.seq (.reg [4] [⟨(some 4), none, .mov (.c (.g (.bool false)))⟩]) <|
    .ret)
   (.skip)) <|
 .seq (.seq (.reg [0, 5] [⟨(some 5), none, .mov (.c (.g (.int .i64 0)))⟩]) <|
  .block [] 0 <|
  .loop [0, 5] [] L14_0) <|
 .seq (.reg [4] [⟨(some 4), none, .mov (.c (.g (.bool true)))⟩]) <|
 .ret⟩
def h14 : List (List Nat) := [[0, 1], [0, 9], [0], [4], [0, 5], [], [0, 5], [0, 5, 13], [0, 5], [0, 5], [0, 5, 31], [0, 5], [4], [0, 5], [4]]
theorem c14 : cFunc Try.prog 14 false h14 = some F14 := by kernel_rfl

/-- baton/batonref03.FewEvents -/
def L15_0 : IC :=
 .seq (.seq (.reg [0, 5, 13] [⟨(some 10), none, .mov (.t 5)⟩,
     ⟨(some 11), none, .mov (.t 0)⟩,
     ⟨(some 12), none, .len (.t 11)⟩,
     ⟨(some 13), none, .bin .lss (.t 10) (.t 12)⟩]) <|
  .cond [0, 5] (.t 13)
   (.skip)
   (.exit 0)) <|
 .seq (.block [0, 5] 1 <|
  .seq (.reg [0, 5, 33] [⟨(some 16), none, .mov (.t 0)⟩,
     ⟨(some 17), none, .mov (.t 5)⟩,
     ⟨(some 18), none, .iaddr 8 (.t 16) (.t 17)⟩,
     ⟨(some 19), none, .faddr 2 (.t 18)⟩,
     ⟨(some 20), none, .faddr 0 (.t 19)⟩,
     ⟨(some 21), none, .load false 1 (.t 20)⟩,
     ⟨(some 22), none, .lenS (.t 21)⟩,
     ⟨(some 23), none, .bin .gtr (.t 22) (.c (.g (.int .i64 60)))⟩,
     ⟨(some 24), none, .mov (.t 23)⟩,
     ⟨(some 25), (some (24, false)), .mov (.t 0)⟩,
     ⟨(some 26), (some (24, false)), .mov (.t 5)⟩,
     ⟨(some 27), (some (24, false)), .iaddr 8 (.t 25) (.t 26)⟩,
     ⟨(some 28), (some (24, false)), .faddr 2 (.t 27)⟩,
     ⟨(some 29), (some (24, false)), .faddr 1 (.t 28)⟩,
     ⟨(some 30), (some (24, false)), .load false 1 (.t 29)⟩,
     ⟨(some 31), (some (24, false)), .lenS (.t 30)⟩,
     ⟨(some 32), (some (24, false)), .bin .gtr (.t 31) (.c (.g (.int .i64 60)))⟩,
     ⟨(some 33), none, .pick (.t 24) (.c (.g (.bool true))) (.t 32)⟩]) <|
  .cond [0, 5] (.t 33)
   (.seq (.reg [4] [⟨(some 4), none, .mov (.c (.g (.bool false)))⟩]) <|
    .ret)
   (.skip)) <|
 .reg [0, 5] [⟨(some 14), none, .mov (.t 5)⟩,
   ⟨(some 15), none, .bin .add (.t 14) (.c (.g (.int .i64 1)))⟩,
   ⟨(some 5), none, .mov (.t 15)⟩]
def F15 : IFunc := ⟨2, 34, [.tmp 4], false,
 .seq (.reg [0, 1] [⟨(some 4), none, .mov (.c (.g (.bool false)))⟩]) <|
 .seq (.seq (.reg [0, 9] [⟨(some 6), none, .mov (.t 0)⟩,
     ⟨(some 7), none, .len (.t 6)⟩,
     ⟨(some 8), none, .mov (.t 1)⟩,
     ⟨(some 9), none, .bin .gtr (.t 7) (.t 8)⟩]) <|
  .cond [0] (.t 9)
   (.seq (.reg [4] [⟨(some 4), none, .mov (.c (.g (.bool false)))⟩]) <|
    .ret)
   (.skip)) <|
 .seq (.seq (.reg [0, 5] [⟨(some 5), none, .mov (.c (.g (.int .i64 0)))⟩]) <|
  .block [] 0 <|
  .loop [0, 5] [] L15_0) <|
 .seq (.reg [4] [⟨(some 4), none, .mov (.c (.g (.bool true)))⟩]) <|
 .ret⟩
def h15 : List (List Nat) := [[0, 1], [0, 9], [0], [4], [0, 5], [], [0, 5], [0, 5, 13], [0, 5], [0, 5], [0, 5, 33], [0, 5], [4], [0, 5], [4]]
theorem c15 : cFunc Try.prog 15 false h15 = some F15 := by kernel_rfl

/-- baton/batonlaw14.live -/
def F16 : IFunc := ⟨0, 100, [.tmp 0], false,
 .seq (.reg [] [⟨(some 0), none, .mov (.c (.g (.bool false)))⟩]) <|
 .seq (.reg [1, 2] [⟨(some 10), none, .build [.g (.int .i64 0), .g (.int .i64 0), .g (.int .i64 0), .g (.int .i64 0), .g (.int .i64 0), .g (.int .i64 0), .g (.bool false), .g (.nsl), .g (.nsl)] [(4, 1, (.c (.g (.int .i64 7)))), (5, 1, (.c (.g (.int .i64 34))))]⟩,
    ⟨(some 11), none, .call (.c (.g (.fn 17))) [(.c (.g (.int .i64 100))), (.t 10)]⟩,
    ⟨(some 9), none, .mov (.t 11)⟩,
    ⟨(some 12), none, .ext 0 (.t 9)⟩,
    ⟨(some 13), none, .ext 1 (.t 9)⟩,
    ⟨(some 1), none, .alloc [.z (.int .i64 0), .z (.int .i64 0), .z (.int .i64 0), .z (.int .i64 0)]⟩,
    ⟨none, none, .store 4 (.t 1) (.t 12)⟩,
    ⟨(some 2), none, .mov (.t 13)⟩]) <|
 .seq (.reg [1, 2, 4] [⟨(some 15), none, .build [.g (.int .i64 0), .g (.int .i64 0), .g (.int .i64 0), .g (.int .i64 0), .g (.int .i64 0), .g (.int .i64 0), .g (.bool false), .g (.nsl), .g (.nsl)] [(4, 1, (.c (.g (.int .i64 7)))), (5, 1, (.c (.g (.int .i64 1))))]⟩,
    ⟨(some 16), none, .call (.c (.g (.fn 17))) [(.c (.g (.int .i64 100))), (.t 15)]⟩,
    ⟨(some 14), none, .mov (.t 16)⟩,
    ⟨(some 17), none, .ext 0 (.t 14)⟩,
    ⟨(some 18), none, .ext 1 (.t 14)⟩,
    ⟨(some 3), none, .alloc [.z (.int .i64 0), .z (.int .i64 0), .z (.int .i64 0), .z (.int .i64 0)]⟩,
    ⟨none, none, .store 4 (.t 3) (.t 17)⟩,
    ⟨(some 4), none, .mov (.t 18)⟩]) <|
 .seq (.reg [1, 2, 4, 5] [⟨(some 19), none, .load true 4 (.t 1)⟩,
    ⟨(some 20), none, .build [.g (.int .i64 0), .g (.int .i64 0), .g (.int .i64 0), .g (.int .i64 0), .g (.int .i64 0), .g (.int .i64 0), .g (.bool false), .g (.nsl), .g (.nsl)] [(4, 1, (.c (.g (.int .i64 7)))), (5, 1, (.c (.g (.int .i64 34))))]⟩,
    ⟨(some 21), none, .call (.c (.g (.fn 28))) [(.t 19), (.c (.g (.int .i64 120))), (.t 20)]⟩,
    ⟨(some 5), none, .alloc [.z (.int .i64 0), .z (.int .i64 0), .z (.int .i64 0), .z (.int .i64 0)]⟩,
    ⟨none, none, .store 4 (.t 5) (.t 21)⟩]) <|
 .seq (.reg [1, 2, 4, 5, 6] [⟨(some 22), none, .load true 4 (.t 5)⟩,
    ⟨(some 23), none, .build [.g (.int .i64 0), .g (.int .i64 0), .g (.int .i64 0), .g (.int .i64 0), .g (.int .i64 0), .g (.int .i64 0), .g (.bool false), .g (.nsl), .g (.nsl)] [(4, 1, (.c (.g (.int .i64 7)))), (5, 1, (.c (.g (.int .i64 34))))]⟩,
    ⟨(some 24), none, .call (.c (.g (.fn 28))) [(.t 22), (.c (.g (.int .i64 90))), (.t 23)]⟩,
    ⟨(some 6), none, .alloc [.z (.int .i64 0), .z (.int .i64 0), .z (.int .i64 0), .z (.int .i64 0)]⟩,
    ⟨none, none, .store 4 (.t 6) (.t 24)⟩]) <|
 .seq (.reg [1, 2, 4, 5, 6, 7] [⟨(some 25), none, .load true 4 (.t 5)⟩,
    ⟨(some 26), none, .build [.g (.int .i64 0), .g (.int .i64 0), .g (.int .i64 0), .g (.int .i64 0), .g (.int .i64 0), .g (.int .i64 0), .g (.bool false), .g (.nsl), .g (.nsl)] [(0, 1, (.c (.g (.int .i64 6))))]⟩,
    ⟨(some 27), none, .call (.c (.g (.fn 28))) [(.t 25), (.c (.g (.int .i64 130))), (.t 26)]⟩,
    ⟨(some 7), none, .alloc [.z (.int .i64 0), .z (.int .i64 0), .z (.int .i64 0), .z (.int .i64 0)]⟩,
    ⟨none, none, .store 4 (.t 7) (.t 27)⟩]) <|
 .seq (.reg [1, 2, 4, 5, 6, 7, 8] [⟨(some 28), none, .load true 4 (.t 5)⟩,
    ⟨(some 29), none, .build [.g (.int .i64 0), .g (.int .i64 0), .g (.int .i64 0), .g (.int .i64 0), .g (.int .i64 0), .g (.int .i64 0), .g (.bool false), .g (.nsl), .g (.nsl)] [(4, 1, (.c (.g (.int .i64 8))))]⟩,
    ⟨(some 30), none, .call (.c (.g (.fn 28))) [(.t 28), (.c (.g (.int .i64 130))), (.t 29)]⟩,
    ⟨(some 8), none, .alloc [.z (.int .i64 0), .z (.int .i64 0), .z (.int .i64 0), .z (.int .i64 0)]⟩,
    ⟨none, none, .store 4 (.t 8) (.t 30)⟩]) <|
 .seq (.reg [0] [⟨(some 31), none, .mov (.t 2)⟩,
    ⟨(some 32), none, .mov (.t 31)⟩,
    ⟨(some 33), (some (32, true)), .load true 4 (.t 1)⟩,
    ⟨(some 34), (some (32, true)), .build [.g (.int .i64 0), .g (.int .i64 0), .g (.int .i64 0), .g (.int .i64 0)] [(0, 1, (.c (.g (.int .i64 7)))), (1, 1, (.c (.g (.int .i64 34)))), (2, 1, (.c (.g (.int .i64 130)))), (3, 1, (.c (.g (.int .i64 115))))]⟩,
    ⟨(some 35), (some (32, true)), .eqs false true [.i, .i, .i, .i] (.t 33) (.t 34)⟩,
    ⟨(some 36), none, .pick (.t 32) (.t 35) (.c (.g (.bool false)))⟩,
    ⟨(some 37), none, .mov (.t 36)⟩,
    ⟨(some 38), (some (37, true)), .mov (.t 4)⟩,
    ⟨(some 39), (some (37, true)), .un .not (.t 38)⟩,
    ⟨(some 40), none, .pick (.t 37) (.t 39) (.c (.g (.bool false)))⟩,
    ⟨(some 41), none, .mov (.t 40)⟩,
    ⟨(some 42), (some (41, true)), .faddr 2 (.t 5)⟩,
    ⟨(some 43), (some (41, true)), .load false 1 (.t 42)⟩,
    ⟨(some 44), (some (41, true)), .bin .eql (.t 43) (.c (.g (.int .i64 150)))⟩,
    ⟨(some 45), none, .pick (.t 41) (.t 44) (.c (.g (.bool false)))⟩,
    ⟨(some 46), none, .mov (.t 45)⟩,
    ⟨(some 47), (some (46, true)), .faddr 3 (.t 5)⟩,
    ⟨(some 48), (some (46, true)), .load false 1 (.t 47)⟩,
    ⟨(some 49), (some (46, true)), .bin .eql (.t 48) (.c (.g (.int .i64 135)))⟩,
    ⟨(some 50), none, .pick (.t 46) (.t 49) (.c (.g (.bool false)))⟩,
    ⟨(some 51), none, .mov (.t 50)⟩,
    ⟨(some 52), (some (51, true)), .load true 4 (.t 6)⟩,
    ⟨(some 53), (some (51, true)), .load true 4 (.t 5)⟩,
    ⟨(some 54), (some (51, true)), .eqs false true [.i, .i, .i, .i] (.t 52) (.t 53)⟩,
    ⟨(some 55), none, .pick (.t 51) (.t 54) (.c (.g (.bool false)))⟩,
    ⟨(some 56), none, .mov (.t 55)⟩,
    ⟨(some 57), (some (56, true)), .load true 4 (.t 7)⟩,
    ⟨(some 58), (some (56, true)), .build [.g (.int .i64 0), .g (.int .i64 0), .g (.int .i64 0), .g (.int .i64 0)] []⟩,
    ⟨(some 59), (some (56, true)), .eqs false true [.i, .i, .i, .i] (.t 57) (.t 58)⟩,
    ⟨(some 60), none, .pick (.t 56) (.t 59) (.c (.g (.bool false)))⟩,
    ⟨(some 61), none, .mov (.t 60)⟩,
    ⟨(some 62), (some (61, true)), .load true 4 (.t 8)⟩,
    ⟨(some 63), (some (61, true)), .load true 4 (.t 5)⟩,
    ⟨(some 64), (some (61, true)), .eqs false true [.i, .i, .i, .i] (.t 62) (.t 63)⟩,
    ⟨(some 65), none, .pick (.t 61) (.t 64) (.c (.g (.bool false)))⟩,
    ⟨(some 66), none, .mov (.t 65)⟩,
    ⟨(some 67), (some (66, true)), .load true 4 (.t 1)⟩,
    ⟨(some 68), (some (66, true)), .call (.c (.g (.fn 19))) [(.t 67), (.c (.g (.int .i64 129)))]⟩,
    ⟨(some 69), none, .pick (.t 66) (.t 68) (.c (.g (.bool false)))⟩,
    ⟨(some 70), none, .mov (.t 69)⟩,
    ⟨(some 71), (some (70, true)), .load true 4 (.t 1)⟩,
    ⟨(some 72), (some (70, true)), .call (.c (.g (.fn 19))) [(.t 71), (.c (.g (.int .i64 130)))]⟩,
    ⟨(some 73), (some (70, true)), .un .not (.t 72)⟩,
    ⟨(some 74), none, .pick (.t 70) (.t 73) (.c (.g (.bool false)))⟩,
    ⟨(some 75), none, .mov (.t 74)⟩,
    ⟨(some 76), (some (75, true)), .load true 4 (.t 1)⟩,
    ⟨(some 77), (some (75, true)), .call (.c (.g (.fn 21))) [(.t 76), (.c (.g (.int .i64 115)))]⟩,
    ⟨(some 78), none, .pick (.t 75) (.t 77) (.c (.g (.bool false)))⟩,
    ⟨(some 79), none, .mov (.t 78)⟩,
    ⟨(some 80), (some (79, true)), .load true 4 (.t 1)⟩,
    ⟨(some 81), (some (79, true)), .call (.c (.g (.fn 21))) [(.t 80), (.c (.g (.int .i64 114)))]⟩,
    ⟨(some 82), (some (79, true)), .un .not (.t 81)⟩,
    ⟨(some 83), none, .pick (.t 79) (.t 82) (.c (.g (.bool false)))⟩,
    ⟨(some 84), none, .mov (.t 83)⟩,
    ⟨(some 85), (some (84, true)), .load true 4 (.t 1)⟩,
    ⟨(some 86), (some (84, true)), .call (.c (.g (.fn 21))) [(.t 85), (.c (.g (.int .i64 130)))]⟩,
    ⟨(some 87), (some (84, true)), .un .not (.t 86)⟩,
    ⟨(some 88), none, .pick (.t 84) (.t 87) (.c (.g (.bool false)))⟩,
    ⟨(some 89), none, .mov (.t 88)⟩,
    ⟨(some 90), (some (89, true)), .call (.c (.g (.fn 24))) [(.c (.g (.int .i64 9)))]⟩,
    ⟨(some 91), (some (89, true)), .field false 8 1 (.t 90)⟩,
    ⟨(some 92), (some (89, true)), .bin .eql (.t 91) (.c (.g (.int .i64 9)))⟩,
    ⟨(some 93), none, .pick (.t 89) (.t 92) (.c (.g (.bool false)))⟩,
    ⟨(some 94), none, .mov (.t 93)⟩,
    ⟨(some 95), (some (94, true)), .load true 4 (.t 1)⟩,
    ⟨(some 96), (some (94, true)), .call (.c (.g (.fn 26))) [(.t 95)]⟩,
    ⟨(some 97), (some (94, true)), .field false 6 1 (.t 96)⟩,
    ⟨(some 98), (some (94, true)), .bin .eql (.t 97) (.c (.g (.int .i64 7)))⟩,
    ⟨(some 99), none, .pick (.t 94) (.t 98) (.c (.g (.bool false)))⟩,
    ⟨(some 0), none, .mov (.t 99)⟩]) <|
 .ret⟩
def h16 : List (List Nat) := [[], [1, 2], [1, 2, 4], [1, 2, 4, 5], [1, 2, 4, 5, 6], [1, 2, 4, 5, 6, 7], [1, 2, 4, 5, 6, 7, 8], [0]]
theorem c16 : cFunc Try.prog 16 false h16 = some F16 := by kernel_rfl

/-- baton/sess.Begin -/
def F17 : IFunc := ⟨2, 38, [.cell 4 true 4, .tmp 5], false,
 .seq (.reg [0, 3, 4] [⟨(some 3), none, .box (.t 1)⟩,
    ⟨(some 4), none, .alloc [.z (.int .i64 0), .z (.int .i64 0), .z (.int .i64 0), .z (.int .i64 0)]⟩,
    ⟨(some 5), none, .mov (.c (.g (.bool false)))⟩]) <|
 .seq (.reg [0, 3, 4, 6] [⟨(some 7), none, .faddr 5 (.t 3)⟩,
    ⟨(some 8), none, .load false 1 (.t 7)⟩,
    ⟨(some 9), none, .mov (.t 0)⟩,
    ⟨(some 10), none, .call (.c (.g (.fn 52))) [(.t 8), (.t 9)]⟩,
    ⟨(some 6), none, .alloc [.z (.int .i64 0), .z (.int .i64 0)]⟩,
    ⟨none, none, .store 2 (.t 6) (.t 10)⟩]) <|
 .seq (.seq (.reg [0, 3, 4, 6, 23] [⟨(some 11), none, .faddr 0 (.t 3)⟩,
     ⟨(some 12), none, .load false 1 (.t 11)⟩,
     ⟨(some 13), none, .bin .neq (.t 12) (.c (.g (.int .i64 0)))⟩,
     ⟨(some 14), none, .mov (.t 13)⟩,
     ⟨(some 15), (some (14, false)), .faddr 4 (.t 3)⟩,
     ⟨(some 16), (some (14, false)), .load false 1 (.t 15)⟩,
     ⟨(some 17), (some (14, false)), .bin .lss (.t 16) (.c (.g (.int .i64 1)))⟩,
     ⟨(some 18), none, .pick (.t 14) (.c (.g (.bool true))) (.t 17)⟩,
     ⟨(some 19), none, .mov (.t 18)⟩,
     ⟨(some 20), (some (19, false)), .load true 2 (.t 6)⟩,
     ⟨(some 21), (some (19, false)), .call (.c (.g (.fn 53))) [(.t 20)]⟩,
     ⟨(some 22), (some (19, false)), .un .not (.t 21)⟩,
     ⟨(some 23), none, .pick (.t 19) (.c (.g (.bool true))) (.t 22)⟩]) <|
  .cond [0, 3, 4, 6] (.t 23)
   (.seq (.reg [4, 5] [⟨(some 24), none, .build [.g (.int .i64 0), .g (.int .i64 0), .g (.int .i64 0), .g (.int .i64 0)] []⟩,
       ⟨none, none, .store 4 (.t 4) (.t 24)⟩,
       ⟨(some 5), none, .mov (.c (.g (.bool false)))⟩]) <|
    .ret)
   (.skip)) <|
 .seq (.drw [4, 5] 0 <|
  .take ⟨(some 25), none, .faddr 4 (.t 3)⟩ <|
  .take ⟨(some 26), none, .load false 1 (.t 25)⟩ <|
  .take ⟨(some 27), none, .faddr 5 (.t 3)⟩ <|
  .take ⟨(some 28), none, .load false 1 (.t 27)⟩ <|
  .take ⟨(some 29), none, .faddr 0 (.t 6)⟩ <|
  .take ⟨(some 30), none, .load false 1 (.t 29)⟩ <|
  .take ⟨(some 31), none, .mov (.t 0)⟩ <|
  .take ⟨(some 33), none, .faddr 0 (.t 6)⟩ <|
  .take ⟨(some 34), none, .load false 1 (.t 33)⟩ <|
  .take ⟨(some 35), none, .mov (.t 0)⟩ <|
  .one ⟨(some 32), none, .call (.c (.g (.fn 54))) [(.t 30), (.t 31)]⟩ <|
  .one ⟨(some 36), none, .call (.c (.g (.fn 55))) [(.t 34), (.t 35)]⟩ <|
  .take ⟨(some 37), none, .build [.g (.int .i64 0), .g (.int .i64 0), .g (.int .i64 0), .g (.int .i64 0)] [(0, 1, (.t 26)), (1, 1, (.t 28)), (2, 1, (.t 32)), (3, 1, (.t 36))]⟩ <|
  .free <|
  .one ⟨none, none, .store 4 (.t 4) (.t 37)⟩ <|
  .take ⟨(some 5), none, .mov (.c (.g (.bool true)))⟩ <|
  .leaf) <|
 .ret⟩
def h17 : List (List Nat) := [[0, 3, 4], [0, 3, 4, 6], [0, 3, 4, 6, 23], [0, 3, 4, 6], [4, 5], [4, 5]]
theorem c17 : cFunc Try.prog 17 false h17 = some F17 := by kernel_rfl

/-- baton/batonref14.Begin -/
def F18 : IFunc := ⟨2, 40, [.cell 4 true 4, .tmp 5], false,
 .seq (.reg [0, 3, 4] [⟨(some 3), none, .box (.t 1)⟩,
    ⟨(some 4), none, .alloc [.z (.int .i64 0), .z (.int .i64 0), .z (.int .i64 0), .z (.int .i64 0)]⟩,
    ⟨(some 5), none, .mov (.c (.g (.bool false)))⟩]) <|
 .seq (.reg [0, 3, 4, 6] [⟨(some 7), none, .faddr 5 (.t 3)⟩,
    ⟨(some 8), none, .load false 1 (.t 7)⟩,
    ⟨(some 9), none, .call (.c (.g (.fn 30))) [(.t 8)]⟩,
    ⟨(some 6), none, .mov (.t 9)⟩]) <|
 .seq (.seq (.reg [0, 3, 4, 6, 26] [⟨(some 10), none, .faddr 0 (.t 3)⟩,
     ⟨(some 11), none, .load false 1 (.t 10)⟩,
     ⟨(some 12), none, .bin .neq (.t 11) (.c (.g (.int .i64 0)))⟩,
     ⟨(some 13), none, .mov (.t 12)⟩,
     ⟨(some 14), (some (13, false)), .faddr 4 (.t 3)⟩,
     ⟨(some 15), (some (13, false)), .load false 1 (.t 14)⟩,
     ⟨(some 16), (some (13, false)), .bin .lss (.t 15) (.c (.g (.int .i64 1)))⟩,
     ⟨(some 17), none, .pick (.t 13) (.c (.g (.bool true))) (.t 16)⟩,
     ⟨(some 18), none, .mov (.t 17)⟩,
     ⟨(some 19), (some (18, false)), .mov (.t 6)⟩,
     ⟨(some 20), (some (18, false)), .bin .eql (.t 19) (.c (.g (.int .i64 0)))⟩,
     ⟨(some 21), none, .pick (.t 18) (.c (.g (.bool true))) (.t 20)⟩,
     ⟨(some 22), none, .mov (.t 21)⟩,
     ⟨(some 23), (some (22, false)), .mov (.t 0)⟩,
     ⟨(some 24), (some (22, false)), .call (.c (.g (.fn 56))) [(.t 23)]⟩,
     ⟨(some 25), (some (22, false)), .un .not (.t 24)⟩,
     ⟨(some 26), none, .pick (.t 22) (.c (.g (.bool true))) (.t 25)⟩]) <|
  .cond [0, 3, 4, 6] (.t 26)
   (.seq (.reg [4, 5] [⟨(some 27), none, .build [.g (.int .i64 0), .g (.int .i64 0), .g (.int .i64 0), .g (.int .i64 0)] []⟩,
       ⟨none, none, .store 4 (.t 4) (.t 27)⟩,
       ⟨(some 5), none, .mov (.c (.g (.bool false)))⟩]) <|
    .ret)
   (.skip)) <|
 .seq (.reg [4, 5] [⟨(some 28), none, .faddr 4 (.t 3)⟩,
    ⟨(some 29), none, .load false 1 (.t 28)⟩,
    ⟨(some 30), none, .faddr 5 (.t 3)⟩,
    ⟨(some 31), none, .load false 1 (.t 30)⟩,
    ⟨(some 32), none, .mov (.t 0)⟩,
    ⟨(some 33), none, .mov (.t 6)⟩,
    ⟨(some 34), none, .bin .add (.t 32) (.t 33)⟩,
    ⟨(some 35), none, .mov (.t 0)⟩,
    ⟨(some 36), none, .mov (.t 6)⟩,
    ⟨(some 37), none, .bin .quo (.t 36) (.c (.g (.int .i64 2)))⟩,
    ⟨(some 38), none, .bin .add (.t 35) (.t 37)⟩,
    ⟨(some 39), none, .build [.g (.int .i64 0), .g (.int .i64 0), .g (.int .i64 0), .g (.int .i64 0)] [(0, 1, (.t 29)), (1, 1, (.t 31)), (2, 1, (.t 34)), (3, 1, (.t 38))]⟩,
    ⟨none, none, .store 4 (.t 4) (.t 39)⟩,
    ⟨(some 5), none, .mov (.c (.g (.bool true)))⟩]) <|
 .ret⟩
def h18 : List (List Nat) := [[0, 3, 4], [0, 3, 4, 6], [0, 3, 4, 6, 26], [0, 3, 4, 6], [4, 5], [4, 5]]
theorem c18 : cFunc Try.prog 18 false h18 = some F18 := by kernel_rfl

/-- baton/sess.Alive -/
def F19 : IFunc := ⟨2, 14, [.tmp 4], false,
 .seq (.reg [1, 2] [⟨(some 2), none, .box (.t 0)⟩,
    ⟨(some 4), none, .mov (.c (.g (.bool false)))⟩]) <|
 .seq (.reg [4] [⟨(some 5), none, .faddr 0 (.t 2)⟩,
    ⟨(some 6), none, .load false 1 (.t 5)⟩,
    ⟨(some 7), none, .bin .neq (.t 6) (.c (.g (.int .i64 0)))⟩,
    ⟨(some 8), none, .mov (.t 7)⟩,
    ⟨(some 9), (some (8, true)), .mov (.t 1)⟩,
    ⟨(some 10), (some (8, true)), .faddr 2 (.t 2)⟩,
    ⟨(some 11), (some (8, true)), .load false 1 (.t 10)⟩,
    ⟨(some 12), (some (8, true)), .bin .lss (.t 9) (.t 11)⟩,
    ⟨(some 13), none, .pick (.t 8) (.t 12) (.c (.g (.bool false)))⟩,
    ⟨(some 4), none, .mov (.t 13)⟩]) <|
 .ret⟩
def h19 : List (List Nat) := [[1, 2], [4]]
theorem c19 : cFunc Try.prog 19 false h19 = some F19 := by kernel_rfl

/-- baton/batonref14.Alive -/
def F20 : IFunc := ⟨2, 14, [.tmp 4], false,
 .seq (.reg [1, 2] [⟨(some 2), none, .box (.t 0)⟩,
    ⟨(some 4), none, .mov (.c (.g (.bool false)))⟩]) <|
 .seq (.reg [4] [⟨(some 5), none, .faddr 0 (.t 2)⟩,
    ⟨(some 6), none, .load false 1 (.t 5)⟩,
    ⟨(some 7), none, .bin .neq (.t 6) (.c (.g (.int .i64 0)))⟩,
    ⟨(some 8), none, .mov (.t 7)⟩,
    ⟨(some 9), (some (8, true)), .mov (.t 1)⟩,
    ⟨(some 10), (some (8, true)), .faddr 2 (.t 2)⟩,
    ⟨(some 11), (some (8, true)), .load false 1 (.t 10)⟩,
    ⟨(some 12), (some (8, true)), .bin .lss (.t 9) (.t 11)⟩,
    ⟨(some 13), none, .pick (.t 8) (.t 12) (.c (.g (.bool false)))⟩,
    ⟨(some 4), none, .mov (.t 13)⟩]) <|
 .ret⟩
def h20 : List (List Nat) := [[1, 2], [4]]
theorem c20 : cFunc Try.prog 20 false h20 = some F20 := by kernel_rfl

/-- baton/sess.Due -/
def F21 : IFunc := ⟨2, 14, [.tmp 4], false,
 .seq (.reg [1, 2] [⟨(some 2), none, .box (.t 0)⟩,
    ⟨(some 4), none, .mov (.c (.g (.bool false)))⟩]) <|
 .seq (.reg [4] [⟨(some 5), none, .load true 4 (.t 2)⟩,
    ⟨(some 6), none, .mov (.t 1)⟩,
    ⟨(some 7), none, .call (.c (.g (.fn 19))) [(.t 5), (.t 6)]⟩,
    ⟨(some 8), none, .mov (.t 7)⟩,
    ⟨(some 9), (some (8, true)), .mov (.t 1)⟩,
    ⟨(some 10), (some (8, true)), .faddr 3 (.t 2)⟩,
    ⟨(some 11), (some (8, true)), .load false 1 (.t 10)⟩,
    ⟨(some 12), (some (8, true)), .bin .geq (.t 9) (.t 11)⟩,
    ⟨(some 13), none, .pick (.t 8) (.t 12) (.c (.g (.bool false)))⟩,
    ⟨(some 4), none, .mov (.t 13)⟩]) <|
 .ret⟩
def h21 : List (List Nat) := [[1, 2], [4]]
theorem c21 : cFunc Try.prog 21 false h21 = some F21 := by kernel_rfl

/-- baton/batonref14.Due -/
def F22 : IFunc := ⟨2, 14, [.tmp 4], false,
 .seq (.reg [1, 2] [⟨(some 2), none, .box (.t 0)⟩,
    ⟨(some 4), none, .mov (.c (.g (.bool false)))⟩]) <|
 .seq (.reg [4] [⟨(some 5), none, .load true 4 (.t 2)⟩,
    ⟨(some 6), none, .mov (.t 1)⟩,
    ⟨(some 7), none, .call (.c (.g (.fn 20))) [(.t 5), (.t 6)]⟩,
    ⟨(some 8), none, .mov (.t 7)⟩,
    ⟨(some 9), (some (8, true)), .mov (.t 1)⟩,
    ⟨(some 10), (some (8, true)), .faddr 3 (.t 2)⟩,
    ⟨(some 11), (some (8, true)), .load false 1 (.t 10)⟩,
    ⟨(some 12), (some (8, true)), .bin .geq (.t 9) (.t 11)⟩,
    ⟨(some 13), none, .pick (.t 8) (.t 12) (.c (.g (.bool false)))⟩,
    ⟨(some 4), none, .mov (.t 13)⟩]) <|
 .ret⟩
def h22 : List (List Nat) := [[1, 2], [4]]
theorem c22 : cFunc Try.prog 22 false h22 = some F22 := by kernel_rfl

/-- baton/batonref03.Same -/
def L23_0 : IC :=
 .seq (.seq (.reg [2, 3, 5, 90] [⟨(some 85), none, .mov (.t 5)⟩,
     ⟨(some 86), none, .faddr 10 (.t 2)⟩,
     ⟨(some 87), none, .faddr 0 (.t 86)⟩,
     ⟨(some 88), none, .load false 1 (.t 87)⟩,
     ⟨(some 89), none, .len (.t 88)⟩,
     ⟨(some 90), none, .bin .lss (.t 85) (.t 89)⟩]) <|
  .cond [2, 3, 5] (.t 90)
   (.skip)
   (.exit 0)) <|
 .seq (.block [2, 3, 5] 1 <|
  .seq (.drw [2, 3, 5, 105] 0 <|
   .take ⟨(some 93), none, .faddr 10 (.t 2)⟩ <|
   .take ⟨(some 94), none, .faddr 0 (.t 93)⟩ <|
   .take ⟨(some 95), none, .load false 1 (.t 94)⟩ <|
   .take ⟨(some 96), none, .mov (.t 5)⟩ <|
   .take ⟨(some 97), none, .iaddr 5 (.t 95) (.t 96)⟩ <|
   .take ⟨(some 98), none, .load true 5 (.t 97)⟩ <|
   .take ⟨(some 99), none, .faddr 10 (.t 3)⟩ <|
   .take ⟨(some 100), none, .faddr 0 (.t 99)⟩ <|
   .take ⟨(some 101), none, .load false 1 (.t 100)⟩ <|
   .take ⟨(some 102), none, .mov (.t 5)⟩ <|
   .take ⟨(some 103), none, .iaddr 5 (.t 101) (.t 102)⟩ <|
   .take ⟨(some 104), none, .load true 5 (.t 103)⟩ <|
   .take ⟨(some 105), none, .eqs true true [.s, .i, .i, .i, .s] (.t 98) (.t 104)⟩ <|
   .leaf) <|
  .cond [2, 3, 5] (.t 105)
   (.seq (.reg [4] [⟨(some 4), none, .mov (.c (.g (.bool false)))⟩]) <|
    .ret)
   (.skip)) <|
 .reg [2, 3, 5] [⟨(some 91), none, .mov (.t 5)⟩,
   ⟨(some 92), none, .bin .add (.t 91) (.c (.g (.int .i64 1)))⟩,
   ⟨(some 5), none, .mov (.t 92)⟩]
def F23 : IFunc := ⟨2, 122, [.tmp 4], false,
 .seq (.reg [2, 3] [⟨(some 2), none, .box (.t 0)⟩,
    ⟨(some 3), none, .box (.t 1)⟩,
    ⟨(some 4), none, .mov (.c (.g (.bool false)))⟩]) <|
 .seq (.seq (.reg [2, 3, 84] [⟨(some 6), none, .faddr 0 (.t 2)⟩,
     ⟨(some 7), none, .load false 1 (.t 6)⟩,
     ⟨(some 8), none, .faddr 0 (.t 3)⟩,
     ⟨(some 9), none, .load false 1 (.t 8)⟩,
     ⟨(some 10), none, .bin .neq (.t 7) (.t 9)⟩,
     ⟨(some 11), none, .mov (.t 10)⟩,
     ⟨(some 12), (some (11, false)), .faddr 1 (.t 2)⟩,
     ⟨(some 13), (some (11, false)), .load false 1 (.t 12)⟩,
     ⟨(some 14), (some (11, false)), .faddr 1 (.t 3)⟩,
     ⟨(some 15), (some (11, false)), .load false 1 (.t 14)⟩,
     ⟨(some 16), (some (11, false)), .bin .neq (.t 13) (.t 15)⟩,
     ⟨(some 17), none, .pick (.t 11) (.c (.g (.bool true))) (.t 16)⟩,
     ⟨(some 18), none, .mov (.t 17)⟩,
     ⟨(some 19), (some (18, false)), .faddr 2 (.t 2)⟩,
     ⟨(some 20), (some (18, false)), .load false 1 (.t 19)⟩,
     ⟨(some 21), (some (18, false)), .faddr 2 (.t 3)⟩,
     ⟨(some 22), (some (18, false)), .load false 1 (.t 21)⟩,
     ⟨(some 23), (some (18, false)), .bin .neq (.t 20) (.t 22)⟩,
     ⟨(some 24), none, .pick (.t 18) (.c (.g (.bool true))) (.t 23)⟩,
     ⟨(some 25), none, .mov (.t 24)⟩,
     ⟨(some 26), (some (25, false)), .faddr 3 (.t 2)⟩,
     ⟨(some 27), (some (25, false)), .load false 1 (.t 26)⟩,
     ⟨(some 28), (some (25, false)), .faddr 3 (.t 3)⟩,
     ⟨(some 29), (some (25, false)), .load false 1 (.t 28)⟩,
     ⟨(some 30), (some (25, false)), .eqs true false [.b] (.t 27) (.t 29)⟩,
     ⟨(some 31), none, .pick (.t 25) (.c (.g (.bool true))) (.t 30)⟩,
     ⟨(some 32), none, .mov (.t 31)⟩,
     ⟨(some 33), (some (32, false)), .faddr 4 (.t 2)⟩,
     ⟨(some 34), (some (32, false)), .load false 1 (.t 33)⟩,
     ⟨(some 35), (some (32, false)), .faddr 4 (.t 3)⟩,
     ⟨(some 36), (some (32, false)), .load false 1 (.t 35)⟩,
     ⟨(some 37), (some (32, false)), .bin .neq (.t 34) (.t 36)⟩,
     ⟨(some 38), none, .pick (.t 32) (.c (.g (.bool true))) (.t 37)⟩,
     ⟨(some 39), none, .mov (.t 38)⟩,
     ⟨(some 40), (some (39, false)), .faddr 5 (.t 2)⟩,
     ⟨(some 41), (some (39, false)), .load false 1 (.t 40)⟩,
     ⟨(some 42), (some (39, false)), .faddr 5 (.t 3)⟩,
     ⟨(some 43), (some (39, false)), .load false 1 (.t 42)⟩,
     ⟨(some 44), (some (39, false)), .bin .neq (.t 41) (.t 43)⟩,
     ⟨(some 45), none, .pick (.t 39) (.c (.g (.bool true))) (.t 44)⟩,
     ⟨(some 46), none, .mov (.t 45)⟩,
     ⟨(some 47), (some (46, false)), .faddr 6 (.t 2)⟩,
     ⟨(some 48), (some (46, false)), .load false 1 (.t 47)⟩,
     ⟨(some 49), (some (46, false)), .faddr 6 (.t 3)⟩,
     ⟨(some 50), (some (46, false)), .load false 1 (.t 49)⟩,
     ⟨(some 51), (some (46, false)), .bin .neq (.t 48) (.t 50)⟩,
     ⟨(some 52), none, .pick (.t 46) (.c (.g (.bool true))) (.t 51)⟩,
     ⟨(some 53), none, .mov (.t 52)⟩,
     ⟨(some 54), (some (53, false)), .faddr 7 (.t 2)⟩,
     ⟨(some 55), (some (53, false)), .load false 1 (.t 54)⟩,
     ⟨(some 56), (some (53, false)), .faddr 7 (.t 3)⟩,
     ⟨(some 57), (some (53, false)), .load false 1 (.t 56)⟩,
     ⟨(some 58), (some (53, false)), .bin .neq (.t 55) (.t 57)⟩,
     ⟨(some 59), none, .pick (.t 53) (.c (.g (.bool true))) (.t 58)⟩,
     ⟨(some 60), none, .mov (.t 59)⟩,
     ⟨(some 61), (some (60, false)), .faddr 8 (.t 2)⟩,
     ⟨(some 62), (some (60, false)), .load false 1 (.t 61)⟩,
     ⟨(some 63), (some (60, false)), .faddr 8 (.t 3)⟩,
     ⟨(some 64), (some (60, false)), .load false 1 (.t 63)⟩,
     ⟨(some 65), (some (60, false)), .bin .neq (.t 62) (.t 64)⟩,
     ⟨(some 66), none, .pick (.t 60) (.c (.g (.bool true))) (.t 65)⟩,
     ⟨(some 67), none, .mov (.t 66)⟩,
     ⟨(some 68), (some (67, false)), .faddr 9 (.t 2)⟩,
     ⟨(some 69), (some (67, false)), .load false 1 (.t 68)⟩,
     ⟨(some 70), (some (67, false)), .faddr 9 (.t 3)⟩,
     ⟨(some 71), (some (67, false)), .load false 1 (.t 70)⟩,
     ⟨(some 72), (some (67, false)), .bin .neq (.t 69) (.t 71)⟩,
     ⟨(some 73), none, .pick (.t 67) (.c (.g (.bool true))) (.t 72)⟩,
     ⟨(some 74), none, .mov (.t 73)⟩,
     ⟨(some 75), (some (74, false)), .faddr 10 (.t 2)⟩,
     ⟨(some 76), (some (74, false)), .faddr 0 (.t 75)⟩,
     ⟨(some 77), (some (74, false)), .load false 1 (.t 76)⟩,
     ⟨(some 78), (some (74, false)), .len (.t 77)⟩,
     ⟨(some 79), (some (74, false)), .faddr 10 (.t 3)⟩,
     ⟨(some 80), (some (74, false)), .faddr 0 (.t 79)⟩,
     ⟨(some 81), (some (74, false)), .load false 1 (.t 80)⟩,
     ⟨(some 82), (some (74, false)), .len (.t 81)⟩,
     ⟨(some 83), (some (74, false)), .bin .neq (.t 78) (.t 82)⟩,
     ⟨(some 84), none, .pick (.t 74) (.c (.g (.bool true))) (.t 83)⟩]) <|
  .cond [2, 3] (.t 84)
   (.seq (.reg [4] [⟨(some 4), none, .mov (.c (.g (.bool false)))⟩]) <|
    .ret)
   (.skip)) <|
 .seq (.seq (.reg [2, 3, 5] [⟨(some 5), none, .mov (.c (.g (.int .i64 0)))⟩]) <|
  .block [2, 3] 0 <|
  .loop [2, 3, 5] [] L23_0) <|
 .seq (.reg [4] [⟨(some 106), none, .faddr 10 (.t 2)⟩,
    ⟨(some 107), none, .faddr 1 (.t 106)⟩,
    ⟨(some 108), none, .load false 1 (.t 107)⟩,
    ⟨(some 109), none, .faddr 10 (.t 3)⟩,
    ⟨(some 110), none, .faddr 1 (.t 109)⟩,
    ⟨(some 111), none, .load false 1 (.t 110)⟩,
    ⟨(some 112), none, .call (.c (.g (.fn 57))) [(.t 108), (.t 111)]⟩,
    ⟨(some 113), none, .mov (.t 112)⟩,
    ⟨(some 114), (some (113, true)), .faddr 10 (.t 2)⟩,
    ⟨(some 115), (some (113, true)), .faddr 2 (.t 114)⟩,
    ⟨(some 116), (some (113, true)), .load false 1 (.t 115)⟩,
    ⟨(some 117), (some (113, true)), .faddr 10 (.t 3)⟩,
    ⟨(some 118), (some (113, true)), .faddr 2 (.t 117)⟩,
    ⟨(some 119), (some (113, true)), .load false 1 (.t 118)⟩,
    ⟨(some 120), (some (113, true)), .call (.c (.g (.fn 57))) [(.t 116), (.t 119)]⟩,
    ⟨(some 121), none, .pick (.t 113) (.t 120) (.c (.g (.bool false)))⟩,
    ⟨(some 4), none, .mov (.t 121)⟩]) <|
 .ret⟩
def h23 : List (List Nat) := [[2, 3], [2, 3, 84], [2, 3], [4], [2, 3, 5], [2, 3], [2, 3, 5], [2, 3, 5, 90], [2, 3, 5], [2, 3, 5], [2, 3, 5, 105], [2, 3, 5], [4], [2, 3, 5], [4]]
theorem c23 : cFunc Try.prog 23 false h23 = some F23 := by kernel_rfl

/-- baton/sess.Asks -/
def F24 : IFunc := ⟨1, 5, [.cell 2 true 13], false,
 .seq (.reg [0, 2] [⟨(some 2), none, .alloc [.z (.int .i64 0), .z (.int .i64 0), .z (.int .i64 0), .z (.bool false), .z (.str []), .z (.str []), .z (.int .i64 0), .z (.int .i64 0), .z (.int .i64 0), .z (.int .i64 0), .s 5, .s 4, .s 4]⟩]) <|
 .seq (.reg [2] [⟨(some 3), none, .mov (.t 0)⟩,
    ⟨(some 4), none, .build [.g (.int .i64 0), .g (.int .i64 0), .g (.int .i64 0), .g (.bool false), .g (.str []), .g (.str []), .g (.int .i64 0), .g (.int .i64 0), .g (.int .i64 0), .g (.int .i64 0), .g (.nsl), .g (.nsl), .g (.nsl)] [(0, 1, (.c (.g (.int .i64 4)))), (3, 1, (.c (.g (.bool true)))), (8, 1, (.t 3))]⟩,
    ⟨none, none, .store 13 (.t 2) (.t 4)⟩]) <|
 .ret⟩
def h24 : List (List Nat) := [[0, 2], [2]]
theorem c24 : cFunc Try.prog 24 false h24 = some F24 := by kernel_rfl

/-- baton/batonref14.Asks -/
def F25 : IFunc := ⟨1, 5, [.cell 2 true 13], false,
 .seq (.reg [0, 2] [⟨(some 2), none, .alloc [.z (.int .i64 0), .z (.int .i64 0), .z (.int .i64 0), .z (.bool false), .z (.str []), .z (.str []), .z (.int .i64 0), .z (.int .i64 0), .z (.int .i64 0), .z (.int .i64 0), .s 5, .s 4, .s 4]⟩]) <|
 .seq (.reg [2] [⟨(some 3), none, .mov (.t 0)⟩,
    ⟨(some 4), none, .build [.g (.int .i64 0), .g (.int .i64 0), .g (.int .i64 0), .g (.bool false), .g (.str []), .g (.str []), .g (.int .i64 0), .g (.int .i64 0), .g (.int .i64 0), .g (.int .i64 0), .g (.nsl), .g (.nsl), .g (.nsl)] [(0, 1, (.c (.g (.int .i64 4)))), (3, 1, (.c (.g (.bool true)))), (8, 1, (.t 3))]⟩,
    ⟨none, none, .store 13 (.t 2) (.t 4)⟩]) <|
 .ret⟩
def h25 : List (List Nat) := [[0, 2], [2]]
theorem c25 : cFunc Try.prog 25 false h25 = some F25 := by kernel_rfl

/-- baton/sess.Keeps -/
def F26 : IFunc := ⟨1, 6, [.cell 2 true 13], false,
 .seq (.reg [1, 2] [⟨(some 1), none, .box (.t 0)⟩,
    ⟨(some 2), none, .alloc [.z (.int .i64 0), .z (.int .i64 0), .z (.int .i64 0), .z (.bool false), .z (.str []), .z (.str []), .z (.int .i64 0), .z (.int .i64 0), .z (.int .i64 0), .z (.int .i64 0), .s 5, .s 4, .s 4]⟩]) <|
 .seq (.reg [2] [⟨(some 3), none, .faddr 0 (.t 1)⟩,
    ⟨(some 4), none, .load false 1 (.t 3)⟩,
    ⟨(some 5), none, .build [.g (.int .i64 0), .g (.int .i64 0), .g (.int .i64 0), .g (.bool false), .g (.str []), .g (.str []), .g (.int .i64 0), .g (.int .i64 0), .g (.int .i64 0), .g (.int .i64 0), .g (.nsl), .g (.nsl), .g (.nsl)] [(0, 1, (.c (.g (.int .i64 5)))), (6, 1, (.t 4))]⟩,
    ⟨none, none, .store 13 (.t 2) (.t 5)⟩]) <|
 .ret⟩
def h26 : List (List Nat) := [[1, 2], [2]]
theorem c26 : cFunc Try.prog 26 false h26 = some F26 := by kernel_rfl

/-- baton/batonref14.Keeps -/
def F27 : IFunc := ⟨1, 6, [.cell 2 true 13], false,
 .seq (.reg [1, 2] [⟨(some 1), none, .box (.t 0)⟩,
    ⟨(some 2), none, .alloc [.z (.int .i64 0), .z (.int .i64 0), .z (.int .i64 0), .z (.bool false), .z (.str []), .z (.str []), .z (.int .i64 0), .z (.int .i64 0), .z (.int .i64 0), .z (.int .i64 0), .s 5, .s 4, .s 4]⟩]) <|
 .seq (.reg [2] [⟨(some 3), none, .faddr 0 (.t 1)⟩,
    ⟨(some 4), none, .load false 1 (.t 3)⟩,
    ⟨(some 5), none, .build [.g (.int .i64 0), .g (.int .i64 0), .g (.int .i64 0), .g (.bool false), .g (.str []), .g (.str []), .g (.int .i64 0), .g (.int .i64 0), .g (.int .i64 0), .g (.int .i64 0), .g (.nsl), .g (.nsl), .g (.nsl)] [(0, 1, (.c (.g (.int .i64 5)))), (6, 1, (.t 4))]⟩,
    ⟨none, none, .store 13 (.t 2) (.t 5)⟩]) <|
 .ret⟩
def h27 : List (List Nat) := [[1, 2], [2]]
theorem c27 : cFunc Try.prog 27 false h27 = some F27 := by kernel_rfl

/-- baton/sess.Kept -/
def F28 : IFunc := ⟨3, 54, [.cell 6 true 4], false,
 .seq (.reg [1, 3, 5, 6] [⟨(some 3), none, .box (.t 0)⟩,
    ⟨(some 5), none, .box (.t 2)⟩,
    ⟨(some 6), none, .alloc [.z (.int .i64 0), .z (.int .i64 0), .z (.int .i64 0), .z (.int .i64 0)]⟩]) <|
 .seq (.block [1, 3, 6] 0 <|
  .seq (.reg [1, 3, 5, 6, 8] [⟨(some 9), none, .faddr 0 (.t 5)⟩,
     ⟨(some 10), none, .load false 1 (.t 9)⟩,
     ⟨(some 11), none, .bin .eql (.t 10) (.c (.g (.int .i64 6)))⟩,
     ⟨(some 8), none, .mov (.t 11)⟩]) <|
  .cond [1, 3, 6] (.t 8)
   (.seq (.reg [6] [⟨(some 12), none, .build [.g (.int .i64 0), .g (.int .i64 0), .g (.int .i64 0), .g (.int .i64 0)] []⟩,
       ⟨none, none, .store 4 (.t 6) (.t 12)⟩]) <|
    .ret)
   (.seq (.reg [1, 3, 6, 13] [⟨(some 14), none, .faddr 0 (.t 5)⟩,
       ⟨(some 15), none, .load false 1 (.t 14)⟩,
       ⟨(some 16), none, .bin .neq (.t 15) (.c (.g (.int .i64 0)))⟩,
       ⟨(some 17), none, .mov (.t 16)⟩,
       ⟨(some 18), (some (17, false)), .faddr 4 (.t 5)⟩,
       ⟨(some 19), (some (17, false)), .load false 1 (.t 18)⟩,
       ⟨(some 20), (some (17, false)), .faddr 0 (.t 3)⟩,
       ⟨(some 21), (some (17, false)), .load false 1 (.t 20)⟩,
       ⟨(some 22), (some (17, false)), .bin .neq (.t 19) (.t 21)⟩,
       ⟨(some 23), none, .pick (.t 17) (.c (.g (.bool true))) (.t 22)⟩,
       ⟨(some 24), none, .mov (.t 23)⟩,
       ⟨(some 25), (some (24, false)), .mov (.t 1)⟩,
       ⟨(some 26), (some (24, false)), .bin .lss (.t 25) (.c (.g (.int .i64 0)))⟩,
       ⟨(some 27), none, .pick (.t 24) (.c (.g (.bool true))) (.t 26)⟩,
       ⟨(some 28), none, .mov (.t 27)⟩,
       ⟨(some 29), (some (28, false)), .mov (.t 1)⟩,
       ⟨(some 30), (some (28, false)), .bin .gtr (.t 29) (.c (.g (.int .i64 1099511627775)))⟩,
       ⟨(some 31), none, .pick (.t 28) (.c (.g (.bool true))) (.t 30)⟩,
       ⟨(some 13), none, .mov (.t 31)⟩]) <|
    .cond [1, 3, 6] (.t 13)
     (.seq (.reg [6] [⟨(some 32), none, .load true 4 (.t 3)⟩,
         ⟨none, none, .store 4 (.t 6) (.t 32)⟩]) <|
      .ret)
     (.skip))) <|
 .seq (.reg [1, 3, 6, 7] [⟨(some 33), none, .faddr 1 (.t 3)⟩,
    ⟨(some 34), none, .load false 1 (.t 33)⟩,
    ⟨(some 35), none, .mov (.t 1)⟩,
    ⟨(some 36), none, .call (.c (.g (.fn 52))) [(.t 34), (.t 35)]⟩,
    ⟨(some 7), none, .alloc [.z (.int .i64 0), .z (.int .i64 0)]⟩,
    ⟨none, none, .store 2 (.t 7) (.t 36)⟩]) <|
 .seq (.drw [1, 3, 6, 7] 0 <|
  .take ⟨(some 37), none, .faddr 2 (.t 3)⟩ <|
  .take ⟨(some 38), none, .load false 1 (.t 37)⟩ <|
  .take ⟨(some 39), none, .faddr 0 (.t 7)⟩ <|
  .take ⟨(some 40), none, .load false 1 (.t 39)⟩ <|
  .take ⟨(some 41), none, .mov (.t 1)⟩ <|
  .one ⟨(some 42), none, .call (.c (.g (.fn 54))) [(.t 40), (.t 41)]⟩ <|
  .take ⟨(some 43), none, .mx (.t 38) [(.t 42)]⟩ <|
  .free <|
  .take ⟨(some 44), none, .faddr 2 (.t 3)⟩ <|
  .one ⟨none, none, .store 1 (.t 44) (.t 43)⟩ <|
  .leaf) <|
 .seq (.drw [3, 6] 0 <|
  .take ⟨(some 45), none, .faddr 3 (.t 3)⟩ <|
  .take ⟨(some 46), none, .load false 1 (.t 45)⟩ <|
  .take ⟨(some 47), none, .faddr 0 (.t 7)⟩ <|
  .take ⟨(some 48), none, .load false 1 (.t 47)⟩ <|
  .take ⟨(some 49), none, .mov (.t 1)⟩ <|
  .one ⟨(some 50), none, .call (.c (.g (.fn 55))) [(.t 48), (.t 49)]⟩ <|
  .take ⟨(some 51), none, .mx (.t 46) [(.t 50)]⟩ <|
  .free <|
  .take ⟨(some 52), none, .faddr 3 (.t 3)⟩ <|
  .one ⟨none, none, .store 1 (.t 52) (.t 51)⟩ <|
  .leaf) <|
 .seq (.reg [6] [⟨(some 53), none, .load true 4 (.t 3)⟩,
    ⟨none, none, .store 4 (.t 6) (.t 53)⟩]) <|
 .ret⟩
def h28 : List (List Nat) := [[1, 3, 5, 6], [1, 3, 6], [1, 3, 5, 6, 8], [1, 3, 6], [6], [1, 3, 6, 13], [1, 3, 6], [6], [1, 3, 6, 7], [1, 3, 6, 7], [3, 6], [6]]
theorem c28 : cFunc Try.prog 28 false h28 = some F28 := by kernel_rfl

/-- baton/batonref14.Kept -/
def F29 : IFunc := ⟨3, 56, [.cell 6 true 4], false,
 .seq (.reg [1, 3, 5, 6] [⟨(some 3), none, .box (.t 0)⟩,
    ⟨(some 5), none, .box (.t 2)⟩,
    ⟨(some 6), none, .alloc [.z (.int .i64 0), .z (.int .i64 0), .z (.int .i64 0), .z (.int .i64 0)]⟩]) <|
 .seq (.seq (.reg [1, 3, 5, 6, 11] [⟨(some 9), none, .faddr 0 (.t 5)⟩,
     ⟨(some 10), none, .load false 1 (.t 9)⟩,
     ⟨(some 11), none, .bin .eql (.t 10) (.c (.g (.int .i64 6)))⟩]) <|
  .cond [1, 3, 5, 6] (.t 11)
   (.seq (.reg [6] [⟨(some 12), none, .build [.g (.int .i64 0), .g (.int .i64 0), .g (.int .i64 0), .g (.int .i64 0)] []⟩,
       ⟨none, none, .store 4 (.t 6) (.t 12)⟩]) <|
    .ret)
   (.skip)) <|
 .seq (.seq (.reg [1, 3, 6, 27] [⟨(some 13), none, .faddr 0 (.t 5)⟩,
     ⟨(some 14), none, .load false 1 (.t 13)⟩,
     ⟨(some 15), none, .bin .neq (.t 14) (.c (.g (.int .i64 0)))⟩,
     ⟨(some 16), none, .mov (.t 15)⟩,
     ⟨(some 17), (some (16, false)), .faddr 4 (.t 5)⟩,
     ⟨(some 18), (some (16, false)), .load false 1 (.t 17)⟩,
     ⟨(some 19), (some (16, false)), .faddr 0 (.t 3)⟩,
     ⟨(some 20), (some (16, false)), .load false 1 (.t 19)⟩,
     ⟨(some 21), (some (16, false)), .bin .neq (.t 18) (.t 20)⟩,
     ⟨(some 22), none, .pick (.t 16) (.c (.g (.bool true))) (.t 21)⟩,
     ⟨(some 23), none, .mov (.t 22)⟩,
     ⟨(some 24), (some (23, false)), .mov (.t 1)⟩,
     ⟨(some 25), (some (23, false)), .call (.c (.g (.fn 56))) [(.t 24)]⟩,
     ⟨(some 26), (some (23, false)), .un .not (.t 25)⟩,
     ⟨(some 27), none, .pick (.t 23) (.c (.g (.bool true))) (.t 26)⟩]) <|
  .cond [1, 3, 6] (.t 27)
   (.seq (.reg [6] [⟨(some 28), none, .load true 4 (.t 3)⟩,
       ⟨none, none, .store 4 (.t 6) (.t 28)⟩]) <|
    .ret)
   (.skip)) <|
 .seq (.reg [1, 3, 6, 7] [⟨(some 29), none, .faddr 1 (.t 3)⟩,
    ⟨(some 30), none, .load false 1 (.t 29)⟩,
    ⟨(some 31), none, .call (.c (.g (.fn 30))) [(.t 30)]⟩,
    ⟨(some 7), none, .mov (.t 31)⟩]) <|
 .seq (.reg [1, 6, 7, 8] [⟨(some 32), none, .load true 4 (.t 3)⟩,
    ⟨(some 8), none, .alloc [.z (.int .i64 0), .z (.int .i64 0), .z (.int .i64 0), .z (.int .i64 0)]⟩,
    ⟨none, none, .store 4 (.t 8) (.t 32)⟩]) <|
 .seq (.seq (.reg [1, 6, 7, 8, 38] [⟨(some 33), none, .mov (.t 1)⟩,
     ⟨(some 34), none, .mov (.t 7)⟩,
     ⟨(some 35), none, .bin .add (.t 33) (.t 34)⟩,
     ⟨(some 36), none, .faddr 2 (.t 8)⟩,
     ⟨(some 37), none, .load false 1 (.t 36)⟩,
     ⟨(some 38), none, .bin .gtr (.t 35) (.t 37)⟩]) <|
  .cond [1, 6, 7, 8] (.t 38)
   (.reg [1, 6, 7, 8] [⟨(some 39), none, .mov (.t 1)⟩,
      ⟨(some 40), none, .mov (.t 7)⟩,
      ⟨(some 41), none, .bin .add (.t 39) (.t 40)⟩,
      ⟨(some 42), none, .faddr 2 (.t 8)⟩,
      ⟨none, none, .store 1 (.t 42) (.t 41)⟩])
   (.skip)) <|
 .seq (.seq (.reg [1, 6, 7, 8, 49] [⟨(some 43), none, .mov (.t 1)⟩,
     ⟨(some 44), none, .mov (.t 7)⟩,
     ⟨(some 45), none, .bin .quo (.t 44) (.c (.g (.int .i64 2)))⟩,
     ⟨(some 46), none, .bin .add (.t 43) (.t 45)⟩,
     ⟨(some 47), none, .faddr 3 (.t 8)⟩,
     ⟨(some 48), none, .load false 1 (.t 47)⟩,
     ⟨(some 49), none, .bin .gtr (.t 46) (.t 48)⟩]) <|
  .cond [6, 8] (.t 49)
   (.reg [6, 8] [⟨(some 50), none, .mov (.t 1)⟩,
      ⟨(some 51), none, .mov (.t 7)⟩,
      ⟨(some 52), none, .bin .quo (.t 51) (.c (.g (.int .i64 2)))⟩,
      ⟨(some 53), none, .bin .add (.t 50) (.t 52)⟩,
      ⟨(some 54), none, .faddr 3 (.t 8)⟩,
      ⟨none, none, .store 1 (.t 54) (.t 53)⟩])
   (.skip)) <|
 .seq (.reg [6] [⟨(some 55), none, .load true 4 (.t 8)⟩,
    ⟨none, none, .store 4 (.t 6) (.t 55)⟩]) <|
 .ret⟩
def h29 : List (List Nat) := [[1, 3, 5, 6], [1, 3, 5, 6, 11], [1, 3, 5, 6], [6], [1, 3, 6, 27], [1, 3, 6], [6], [1, 3, 6, 7], [1, 6, 7, 8], [1, 6, 7, 8, 38], [1, 6, 7, 8], [1, 6, 7, 8], [1, 6, 7, 8, 49], [6, 8], [6, 8], [6]]
theorem c29 : cFunc Try.prog 29 false h29 = some F29 := by kernel_rfl

/-- baton/batonref11.Safe -/
def F30 : IFunc := ⟨1, 12, [.tmp 2], false,
 .seq (.reg [0] [⟨(some 2), none, .mov (.c (.g (.int .i64 0)))⟩]) <|
 .seq (.seq (.reg [0, 8] [⟨(some 3), none, .mov (.t 0)⟩,
     ⟨(some 4), none, .bin .lss (.t 3) (.c (.g (.int .i64 1)))⟩,
     ⟨(some 5), none, .mov (.t 4)⟩,
     ⟨(some 6), (some (5, false)), .mov (.t 0)⟩,
     ⟨(some 7), (some (5, false)), .bin .gtr (.t 6) (.c (.g (.int .i64 1000)))⟩,
     ⟨(some 8), none, .pick (.t 5) (.c (.g (.bool true))) (.t 7)⟩]) <|
  .cond [0] (.t 8)
   (.seq (.reg [2] [⟨(some 2), none, .mov (.c (.g (.int .i64 0)))⟩]) <|
    .ret)
   (.skip)) <|
 .seq (.reg [2] [⟨(some 9), none, .mov (.t 0)⟩,
    ⟨(some 10), none, .bin .mul (.c (.g (.int .i64 15))) (.t 9)⟩,
    ⟨(some 11), none, .bin .quo (.t 10) (.c (.g (.int .i64 17)))⟩,
    ⟨(some 2), none, .mov (.t 11)⟩]) <|
 .ret⟩
def h30 : List (List Nat) := [[0], [0, 8], [0], [2], [2]]
theorem c30 : cFunc Try.prog 30 false h30 = some F30 := by kernel_rfl

/-- baton/batonlaw01.live -/
def F31 : IFunc := ⟨0, 126, [.tmp 0], false,
 .seq (.reg [] [⟨(some 0), none, .mov (.c (.g (.bool false)))⟩]) <|
 .seq (.reg [1, 2] [⟨(some 19), none, .call (.c (.g (.fn 32))) [(.c (.g (.str [1, 2])))]⟩,
    ⟨(some 18), none, .mov (.t 19)⟩,
    ⟨(some 20), none, .ext 0 (.t 18)⟩,
    ⟨(some 21), none, .ext 1 (.t 18)⟩,
    ⟨(some 1), none, .mov (.t 20)⟩,
    ⟨(some 2), none, .mov (.t 21)⟩]) <|
 .seq (.reg [1, 2, 4] [⟨(some 23), none, .call (.c (.g (.fn 32))) [(.c (.g (.str [49, 50, 51, 52, 53, 54, 55, 56, 57])))]⟩,
    ⟨(some 22), none, .mov (.t 23)⟩,
    ⟨(some 24), none, .ext 0 (.t 22)⟩,
    ⟨(some 25), none, .ext 1 (.t 22)⟩,
    ⟨(some 3), none, .mov (.t 24)⟩,
    ⟨(some 4), none, .mov (.t 25)⟩]) <|
 .seq (.reg [1, 2, 4, 5, 6, 7] [⟨(some 27), none, .call (.c (.g (.fn 44))) [(.c (.g (.str [120, 172, 2, 121]))), (.c (.g (.int .i64 1)))]⟩,
    ⟨(some 26), none, .mov (.t 27)⟩,
    ⟨(some 28), none, .ext 0 (.t 26)⟩,
    ⟨(some 29), none, .ext 1 (.t 26)⟩,
    ⟨(some 30), none, .ext 2 (.t 26)⟩,
    ⟨(some 5), none, .mov (.t 28)⟩,
    ⟨(some 6), none, .mov (.t 29)⟩,
    ⟨(some 7), none, .mov (.t 30)⟩]) <|
 .seq (.reg [1, 2, 4, 5, 6, 7, 10] [⟨(some 32), none, .call (.c (.g (.fn 44))) [(.c (.g (.str [128]))), (.c (.g (.int .i64 0)))]⟩,
    ⟨(some 31), none, .mov (.t 32)⟩,
    ⟨(some 33), none, .ext 0 (.t 31)⟩,
    ⟨(some 34), none, .ext 1 (.t 31)⟩,
    ⟨(some 35), none, .ext 2 (.t 31)⟩,
    ⟨(some 8), none, .mov (.t 33)⟩,
    ⟨(some 9), none, .mov (.t 34)⟩,
    ⟨(some 10), none, .mov (.t 35)⟩]) <|
 .seq (.reg [1, 2, 4, 5, 6, 7, 10, 13] [⟨(some 37), none, .call (.c (.g (.fn 44))) [(.c (.g (.str [128, 0]))), (.c (.g (.int .i64 0)))]⟩,
    ⟨(some 36), none, .mov (.t 37)⟩,
    ⟨(some 38), none, .ext 0 (.t 36)⟩,
    ⟨(some 39), none, .ext 1 (.t 36)⟩,
    ⟨(some 40), none, .ext 2 (.t 36)⟩,
    ⟨(some 11), none, .mov (.t 38)⟩,
    ⟨(some 12), none, .mov (.t 39)⟩,
    ⟨(some 13), none, .mov (.t 40)⟩]) <|
 .seq (.reg [1, 2, 4, 5, 6, 7, 10, 13, 14, 15] [⟨(some 42), none, .call (.c (.g (.fn 48))) [(.c (.g (.int .i64 37)))]⟩,
    ⟨(some 41), none, .mov (.t 42)⟩,
    ⟨(some 43), none, .ext 0 (.t 41)⟩,
    ⟨(some 44), none, .ext 1 (.t 41)⟩,
    ⟨(some 14), none, .mov (.t 43)⟩,
    ⟨(some 15), none, .mov (.t 44)⟩]) <|
 .seq (.reg [1, 2, 4, 5, 6, 7, 10, 13, 14, 15, 16] [⟨(some 46), none, .call (.c (.g (.fn 48))) [(.c (.g (.int .i64 (-1))))]⟩,
    ⟨(some 45), none, .mov (.t 46)⟩,
    ⟨(some 47), none, .ext 0 (.t 45)⟩,
    ⟨(some 48), none, .ext 1 (.t 45)⟩,
    ⟨(some 16), none, .mov (.t 47)⟩,
    ⟨(some 17), none, .mov (.t 48)⟩]) <|
 .seq (.reg [0] [⟨(some 49), none, .call (.c (.g (.fn 34))) [(.c (.g (.int .u64 258))), (.c (.g (.int .i64 3)))]⟩,
    ⟨(some 50), none, .bin .eql (.t 49) (.c (.g (.str [0, 1, 2])))⟩,
    ⟨(some 51), none, .mov (.t 50)⟩,
    ⟨(some 52), (some (51, true)), .call (.c (.g (.fn 34))) [(.c (.g (.int .u64 1))), (.c (.g (.int .i64 9)))]⟩,
    ⟨(some 53), (some (51, true)), .bin .eql (.t 52) (.c (.g (.str [])))⟩,
    ⟨(some 54), none, .pick (.t 51) (.t 53) (.c (.g (.bool false)))⟩,
    ⟨(some 55), none, .mov (.t 54)⟩,
    ⟨(some 56), (some (55, true)), .mov (.t 1)⟩,
    ⟨(some 57), (some (55, true)), .bin .eql (.t 56) (.c (.g (.int .u64 258)))⟩,
    ⟨(some 58), none, .pick (.t 55) (.t 57) (.c (.g (.bool false)))⟩,
    ⟨(some 59), none, .mov (.t 58)⟩,
    ⟨(some 60), (some (59, true)), .mov (.t 2)⟩,
    ⟨(some 61), none, .pick (.t 59) (.t 60) (.c (.g (.bool false)))⟩,
    ⟨(some 62), none, .mov (.t 61)⟩,
    ⟨(some 63), (some (62, true)), .mov (.t 4)⟩,
    ⟨(some 64), (some (62, true)), .un .not (.t 63)⟩,
    ⟨(some 65), none, .pick (.t 62) (.t 64) (.c (.g (.bool false)))⟩,
    ⟨(some 66), none, .mov (.t 65)⟩,
    ⟨(some 67), (some (66, true)), .call (.c (.g (.fn 36))) [(.c (.g (.int .i64 (-3))))]⟩,
    ⟨(some 68), (some (66, true)), .bin .eql (.t 67) (.c (.g (.int .u64 5)))⟩,
    ⟨(some 69), none, .pick (.t 66) (.t 68) (.c (.g (.bool false)))⟩,
    ⟨(some 70), none, .mov (.t 69)⟩,
    ⟨(some 71), (some (70, true)), .call (.c (.g (.fn 38))) [(.c (.g (.int .u64 5)))]⟩,
    ⟨(some 72), (some (70, true)), .bin .eql (.t 71) (.c (.g (.int .i64 (-3))))⟩,
    ⟨(some 73), none, .pick (.t 70) (.t 72) (.c (.g (.bool false)))⟩,
    ⟨(some 74), none, .mov (.t 73)⟩,
    ⟨(some 75), (some (74, true)), .call (.c (.g (.fn 46))) [(.c (.g (.int .u64 300)))]⟩,
    ⟨(some 76), (some (74, true)), .bin .eql (.t 75) (.c (.g (.str [172, 2])))⟩,
    ⟨(some 77), none, .pick (.t 74) (.t 76) (.c (.g (.bool false)))⟩,
    ⟨(some 78), none, .mov (.t 77)⟩,
    ⟨(some 79), (some (78, true)), .mov (.t 5)⟩,
    ⟨(some 80), (some (78, true)), .bin .eql (.t 79) (.c (.g (.int .u64 300)))⟩,
    ⟨(some 81), none, .pick (.t 78) (.t 80) (.c (.g (.bool false)))⟩,
    ⟨(some 82), none, .mov (.t 81)⟩,
    ⟨(some 83), (some (82, true)), .mov (.t 6)⟩,
    ⟨(some 84), (some (82, true)), .bin .eql (.t 83) (.c (.g (.int .i64 3)))⟩,
    ⟨(some 85), none, .pick (.t 82) (.t 84) (.c (.g (.bool false)))⟩,
    ⟨(some 86), none, .mov (.t 85)⟩,
    ⟨(some 87), (some (86, true)), .mov (.t 7)⟩,
    ⟨(some 88), (some (86, true)), .bin .eql (.t 87) (.c (.g (.int .i64 0)))⟩,
    ⟨(some 89), none, .pick (.t 86) (.t 88) (.c (.g (.bool false)))⟩,
    ⟨(some 90), none, .mov (.t 89)⟩,
    ⟨(some 91), (some (90, true)), .mov (.t 10)⟩,
    ⟨(some 92), (some (90, true)), .bin .eql (.t 91) (.c (.g (.int .i64 2)))⟩,
    ⟨(some 93), none, .pick (.t 90) (.t 92) (.c (.g (.bool false)))⟩,
    ⟨(some 94), none, .mov (.t 93)⟩,
    ⟨(some 95), (some (94, true)), .mov (.t 13)⟩,
    ⟨(some 96), (some (94, true)), .bin .eql (.t 95) (.c (.g (.int .i64 3)))⟩,
    ⟨(some 97), none, .pick (.t 94) (.t 96) (.c (.g (.bool false)))⟩,
    ⟨(some 98), none, .mov (.t 97)⟩,
    ⟨(some 99), (some (98, true)), .call (.c (.g (.fn 40))) [(.c (.g (.int .u64 255))), (.c (.g (.int .i64 4)))]⟩,
    ⟨(some 100), (some (98, true)), .bin .eql (.t 99) (.c (.g (.int .u64 15)))⟩,
    ⟨(some 101), none, .pick (.t 98) (.t 100) (.c (.g (.bool false)))⟩,
    ⟨(some 102), none, .mov (.t 101)⟩,
    ⟨(some 103), (some (102, true)), .call (.c (.g (.fn 42))) [(.c (.g (.int .u64 12))), (.c (.g (.int .i64 4)))]⟩,
    ⟨(some 104), (some (102, true)), .bin .eql (.t 103) (.c (.g (.int .i64 (-4))))⟩,
    ⟨(some 105), none, .pick (.t 102) (.t 104) (.c (.g (.bool false)))⟩,
    ⟨(some 106), none, .mov (.t 105)⟩,
    ⟨(some 107), (some (106, true)), .call (.c (.g (.fn 50))) [(.c (.g (.int .i64 5))), (.c (.g (.int .i64 2)))]⟩,
    ⟨(some 108), (some (106, true)), .bin .eql (.t 107) (.c (.g (.int .i64 37)))⟩,
    ⟨(some 109), none, .pick (.t 106) (.t 108) (.c (.g (.bool false)))⟩,
    ⟨(some 110), none, .mov (.t 109)⟩,
    ⟨(some 111), (some (110, true)), .call (.c (.g (.fn 50))) [(.c (.g (.int .i64 16))), (.c (.g (.int .i64 0)))]⟩,
    ⟨(some 112), (some (110, true)), .bin .eql (.t 111) (.c (.g (.int .i64 (-1))))⟩,
    ⟨(some 113), none, .pick (.t 110) (.t 112) (.c (.g (.bool false)))⟩,
    ⟨(some 114), none, .mov (.t 113)⟩,
    ⟨(some 115), (some (114, true)), .mov (.t 14)⟩,
    ⟨(some 116), (some (114, true)), .bin .eql (.t 115) (.c (.g (.int .i64 5)))⟩,
    ⟨(some 117), none, .pick (.t 114) (.t 116) (.c (.g (.bool false)))⟩,
    ⟨(some 118), none, .mov (.t 117)⟩,
    ⟨(some 119), (some (118, true)), .mov (.t 15)⟩,
    ⟨(some 120), (some (118, true)), .bin .eql (.t 119) (.c (.g (.int .i64 2)))⟩,
    ⟨(some 121), none, .pick (.t 118) (.t 120) (.c (.g (.bool false)))⟩,
    ⟨(some 122), none, .mov (.t 121)⟩,
    ⟨(some 123), (some (122, true)), .mov (.t 16)⟩,
    ⟨(some 124), (some (122, true)), .bin .eql (.t 123) (.c (.g (.int .i64 (-1))))⟩,
    ⟨(some 125), none, .pick (.t 122) (.t 124) (.c (.g (.bool false)))⟩,
    ⟨(some 0), none, .mov (.t 125)⟩]) <|
 .ret⟩
def h31 : List (List Nat) := [[], [1, 2], [1, 2, 4], [1, 2, 4, 5, 6, 7], [1, 2, 4, 5, 6, 7, 10], [1, 2, 4, 5, 6, 7, 10, 13], [1, 2, 4, 5, 6, 7, 10, 13, 14, 15], [1, 2, 4, 5, 6, 7, 10, 13, 14, 15, 16], [0]]
theorem c31 : cFunc Try.prog 31 false h31 = some F31 := by kernel_rfl

/-- baton/shift.Narrow -/
def L32_0 : IC :=
 .seq (.reg [4, 11, 12, 13, 14] [⟨(some 14), none, .bin .lss (.t 13) (.t 12)⟩]) <|
 .seq (.cond [4, 11, 12, 13] (.t 14)
   (.skip)
   (.exit 0)) <|
 .seq (.block [4, 11, 12, 13] 1 <|
  .seq (.reg [4, 6, 11, 12, 13] [⟨(some 15), none, .iaddr 1 (.t 11) (.t 13)⟩,
     ⟨(some 16), none, .load false 1 (.t 15)⟩,
     ⟨(some 6), none, .mov (.t 16)⟩]) <|
  .reg [4, 11, 12, 13] [⟨(some 17), none, .mov (.t 4)⟩,
    ⟨(some 18), none, .bin .shl (.t 17) (.c (.g (.int .u64 8)))⟩,
    ⟨(some 19), none, .mov (.t 6)⟩,
    ⟨(some 20), none, .conv .u64 (.t 19)⟩,
    ⟨(some 21), none, .bin .or (.t 18) (.t 20)⟩,
    ⟨(some 4), none, .mov (.t 21)⟩]) <|
 .reg [4, 11, 12, 13] [⟨(some 22), none, .bin .add (.t 13) (.c (.g (.int .i64 1)))⟩,
   ⟨(some 13), none, .mov (.t 22)⟩]
def F32 : IFunc := ⟨1, 24, [.tmp 2, .tmp 3], false,
 .seq (.reg [0] [⟨(some 2), none, .mov (.c (.g (.int .u64 0)))⟩,
    ⟨(some 3), none, .mov (.c (.g (.bool false)))⟩]) <|
 .seq (.seq (.reg [0, 9] [⟨(some 7), none, .mov (.t 0)⟩,
     ⟨(some 8), none, .lenS (.t 7)⟩,
     ⟨(some 9), none, .bin .gtr (.t 8) (.c (.g (.int .i64 8)))⟩]) <|
  .cond [0] (.t 9)
   (.seq (.reg [2, 3] [⟨(some 2), none, .mov (.c (.g (.int .u64 0)))⟩,
       ⟨(some 3), none, .mov (.c (.g (.bool false)))⟩]) <|
    .ret)
   (.skip)) <|
 .seq (.reg [0, 4] [⟨(some 4), none, .mov (.c (.g (.int .u64 0)))⟩]) <|
 .seq (.seq (.reg [4, 11, 12, 13] [⟨(some 10), none, .mov (.t 0)⟩,
     ⟨(some 11), none, .convSB (.t 10)⟩,
     ⟨(some 12), none, .len (.t 11)⟩,
     ⟨(some 13), none, .mov (.c (.g (.int .i64 0)))⟩]) <|
  .block [4] 0 <|
  .loop [4, 11, 12, 13] [] L32_0) <|
 .seq (.reg [2, 3] [⟨(some 23), none, .mov (.t 4)⟩,
    ⟨(some 2), none, .mov (.t 23)⟩,
    ⟨(some 3), none, .mov (.c (.g (.bool true)))⟩]) <|
 .ret⟩
def h32 : List (List Nat) := [[0], [0, 9], [0], [2, 3], [0, 4], [4, 11, 12, 13], [4], [4, 11, 12, 13], [4, 11, 12, 13, 14], [4, 11, 12, 13], [4, 11, 12, 13], [4, 6, 11, 12, 13], [4, 11, 12, 13], [4, 11, 12, 13], [2, 3]]
theorem c32 : cFunc Try.prog 32 false h32 = some F32 := by kernel_rfl

/-- baton/batonref01.Narrow -/
def L33_0 : IC :=
 .seq (.seq (.reg [0, 4, 5, 12] [⟨(some 9), none, .mov (.t 5)⟩,
     ⟨(some 10), none, .mov (.t 0)⟩,
     ⟨(some 11), none, .lenS (.t 10)⟩,
     ⟨(some 12), none, .bin .lss (.t 9) (.t 11)⟩]) <|
  .cond [0, 4, 5] (.t 12)
   (.skip)
   (.exit 0)) <|
 .seq (.block [0, 4, 5] 1 <|
  .reg [0, 4, 5] [⟨(some 15), none, .mov (.t 4)⟩,
    ⟨(some 16), none, .bin .mul (.c (.g (.int .u64 256))) (.t 15)⟩,
    ⟨(some 17), none, .mov (.t 0)⟩,
    ⟨(some 18), none, .mov (.t 5)⟩,
    ⟨(some 19), none, .index (.t 17) (.t 18)⟩,
    ⟨(some 20), none, .conv .u64 (.t 19)⟩,
    ⟨(some 21), none, .bin .add (.t 16) (.t 20)⟩,
    ⟨(some 4), none, .mov (.t 21)⟩]) <|
 .reg [0, 4, 5] [⟨(some 13), none, .mov (.t 5)⟩,
   ⟨(some 14), none, .bin .add (.t 13) (.c (.g (.int .i64 1)))⟩,
   ⟨(some 5), none, .mov (.t 14)⟩]
def F33 : IFunc := ⟨1, 23, [.tmp 2, .tmp 3], false,
 .seq (.reg [0] [⟨(some 2), none, .mov (.c (.g (.int .u64 0)))⟩,
    ⟨(some 3), none, .mov (.c (.g (.bool false)))⟩]) <|
 .seq (.seq (.reg [0, 8] [⟨(some 6), none, .mov (.t 0)⟩,
     ⟨(some 7), none, .lenS (.t 6)⟩,
     ⟨(some 8), none, .bin .gtr (.t 7) (.c (.g (.int .i64 8)))⟩]) <|
  .cond [0] (.t 8)
   (.seq (.reg [2, 3] [⟨(some 2), none, .mov (.c (.g (.int .u64 0)))⟩,
       ⟨(some 3), none, .mov (.c (.g (.bool false)))⟩]) <|
    .ret)
   (.skip)) <|
 .seq (.reg [0, 4] [⟨(some 4), none, .mov (.c (.g (.int .u64 0)))⟩]) <|
 .seq (.seq (.reg [0, 4, 5] [⟨(some 5), none, .mov (.c (.g (.int .i64 0)))⟩]) <|
  .block [4] 0 <|
  .loop [0, 4, 5] [] L33_0) <|
 .seq (.reg [2, 3] [⟨(some 22), none, .mov (.t 4)⟩,
    ⟨(some 2), none, .mov (.t 22)⟩,
    ⟨(some 3), none, .mov (.c (.g (.bool true)))⟩]) <|
 .ret⟩
def h33 : List (List Nat) := [[0], [0, 8], [0], [2, 3], [0, 4], [0, 4, 5], [4], [0, 4, 5], [0, 4, 5, 12], [0, 4, 5], [0, 4, 5], [0, 4, 5], [0, 4, 5], [2, 3]]
theorem c33 : cFunc Try.prog 33 false h33 = some F33 := by kernel_rfl

/-- baton/shift.Wide -/
def L34_0 : IC :=
 .seq (.reg [0, 1, 5, 16, 17, 18] [⟨(some 18), none, .bin .lss (.t 17) (.t 16)⟩]) <|
 .seq (.cond [0, 1, 5, 16, 17] (.t 18)
   (.skip)
   (.exit 0)) <|
 .seq (.block [0, 1, 5, 16, 17] 1 <|
  .seq (.reg [0, 1, 5, 6, 16, 17] [⟨(some 19), none, .mov (.t 17)⟩,
     ⟨(some 6), none, .mov (.t 19)⟩]) <|
  .reg [0, 1, 5, 16, 17] [⟨(some 20), none, .mov (.t 5)⟩,
    ⟨(some 21), none, .mov (.t 6)⟩,
    ⟨(some 22), none, .mov (.t 0)⟩,
    ⟨(some 23), none, .mov (.t 1)⟩,
    ⟨(some 24), none, .bin .sub (.t 23) (.c (.g (.int .i64 1)))⟩,
    ⟨(some 25), none, .mov (.t 6)⟩,
    ⟨(some 26), none, .bin .sub (.t 24) (.t 25)⟩,
    ⟨(some 27), none, .bin .mul (.c (.g (.int .i64 8))) (.t 26)⟩,
    ⟨(some 28), none, .bin .shr (.t 22) (.t 27)⟩,
    ⟨(some 29), none, .conv .u8 (.t 28)⟩,
    ⟨(some 30), none, .iaddr 1 (.t 20) (.t 21)⟩,
    ⟨none, none, .store 1 (.t 30) (.t 29)⟩]) <|
 .reg [0, 1, 5, 16, 17] [⟨(some 31), none, .bin .add (.t 17) (.c (.g (.int .i64 1)))⟩,
   ⟨(some 17), none, .mov (.t 31)⟩]
def F34 : IFunc := ⟨2, 34, [.tmp 4], false,
 .seq (.reg [0, 1] [⟨(some 4), none, .mov (.c (.g (.str [])))⟩]) <|
 .seq (.seq (.reg [0, 1, 12] [⟨(some 7), none, .mov (.t 1)⟩,
     ⟨(some 8), none, .bin .lss (.t 7) (.c (.g (.int .i64 0)))⟩,
     ⟨(some 9), none, .mov (.t 8)⟩,
     ⟨(some 10), (some (9, false)), .mov (.t 1)⟩,
     ⟨(some 11), (some (9, false)), .bin .gtr (.t 10) (.c (.g (.int .i64 8)))⟩,
     ⟨(some 12), none, .pick (.t 9) (.c (.g (.bool true))) (.t 11)⟩]) <|
  .cond [0, 1] (.t 12)
   (.seq (.reg [4] [⟨(some 4), none, .mov (.c (.g (.str [])))⟩]) <|
    .ret)
   (.skip)) <|
 .seq (.reg [0, 1, 5] [⟨(some 13), none, .mov (.t 1)⟩,
    ⟨(some 14), none, .mk 1 1 [.int .u8 0] (.t 13) (.t 13)⟩,
    ⟨(some 5), none, .mov (.t 14)⟩]) <|
 .seq (.seq (.reg [0, 1, 5, 16, 17] [⟨(some 15), none, .mov (.t 5)⟩,
     ⟨(some 16), none, .len (.t 15)⟩,
     ⟨(some 17), none, .mov (.c (.g (.int .i64 0)))⟩]) <|
  .block [5] 0 <|
  .loop [0, 1, 5, 16, 17] [] L34_0) <|
 .seq (.reg [4] [⟨(some 32), none, .mov (.t 5)⟩,
    ⟨(some 33), none, .convBS (.t 32)⟩,
    ⟨(some 4), none, .mov (.t 33)⟩]) <|
 .ret⟩
def h34 : List (List Nat) := [[0, 1], [0, 1, 12], [0, 1], [4], [0, 1, 5], [0, 1, 5, 16, 17], [5], [0, 1, 5, 16, 17], [0, 1, 5, 16, 17, 18], [0, 1, 5, 16, 17], [0, 1, 5, 16, 17], [0, 1, 5, 6, 16, 17], [0, 1, 5, 16, 17], [0, 1, 5, 16, 17], [4]]
theorem c34 : cFunc Try.prog 34 false h34 = some F34 := by kernel_rfl

/-- baton/batonref01.Wide -/
def L35_0 : IC :=
 .seq (.seq (.reg [0, 5, 6, 18] [⟨(some 17), none, .mov (.t 6)⟩,
     ⟨(some 18), none, .bin .geq (.t 17) (.c (.g (.int .i64 0)))⟩]) <|
  .cond [0, 5, 6] (.t 18)
   (.skip)
   (.exit 0)) <|
 .seq (.block [0, 5, 6] 1 <|
  .seq (.reg [0, 5, 6] [⟨(some 21), none, .mov (.t 5)⟩,
     ⟨(some 22), none, .mov (.t 6)⟩,
     ⟨(some 23), none, .mov (.t 0)⟩,
     ⟨(some 24), none, .bin .rem (.t 23) (.c (.g (.int .u64 256)))⟩,
     ⟨(some 25), none, .conv .u8 (.t 24)⟩,
     ⟨(some 26), none, .iaddr 1 (.t 21) (.t 22)⟩,
     ⟨none, none, .store 1 (.t 26) (.t 25)⟩]) <|
  .reg [0, 5, 6] [⟨(some 27), none, .mov (.t 0)⟩,
    ⟨(some 28), none, .bin .quo (.t 27) (.c (.g (.int .u64 256)))⟩,
    ⟨(some 0), none, .mov (.t 28)⟩]) <|
 .reg [0, 5, 6] [⟨(some 19), none, .mov (.t 6)⟩,
   ⟨(some 20), none, .bin .sub (.t 19) (.c (.g (.int .i64 1)))⟩,
   ⟨(some 6), none, .mov (.t 20)⟩]
def F35 : IFunc := ⟨2, 31, [.tmp 4], false,
 .seq (.reg [0, 1] [⟨(some 4), none, .mov (.c (.g (.str [])))⟩]) <|
 .seq (.seq (.reg [0, 1, 12] [⟨(some 7), none, .mov (.t 1)⟩,
     ⟨(some 8), none, .bin .lss (.t 7) (.c (.g (.int .i64 0)))⟩,
     ⟨(some 9), none, .mov (.t 8)⟩,
     ⟨(some 10), (some (9, false)), .mov (.t 1)⟩,
     ⟨(some 11), (some (9, false)), .bin .gtr (.t 10) (.c (.g (.int .i64 8)))⟩,
     ⟨(some 12), none, .pick (.t 9) (.c (.g (.bool true))) (.t 11)⟩]) <|
  .cond [0, 1] (.t 12)
   (.seq (.reg [4] [⟨(some 4), none, .mov (.c (.g (.str [])))⟩]) <|
    .ret)
   (.skip)) <|
 .seq (.reg [0, 1, 5] [⟨(some 13), none, .mov (.t 1)⟩,
    ⟨(some 14), none, .mk 1 1 [.int .u8 0] (.t 13) (.t 13)⟩,
    ⟨(some 5), none, .mov (.t 14)⟩]) <|
 .seq (.seq (.reg [0, 5, 6] [⟨(some 15), none, .mov (.t 1)⟩,
     ⟨(some 16), none, .bin .sub (.t 15) (.c (.g (.int .i64 1)))⟩,
     ⟨(some 6), none, .mov (.t 16)⟩]) <|
  .block [5] 0 <|
  .loop [0, 5, 6] [] L35_0) <|
 .seq (.reg [4] [⟨(some 29), none, .mov (.t 5)⟩,
    ⟨(some 30), none, .convBS (.t 29)⟩,
    ⟨(some 4), none, .mov (.t 30)⟩]) <|
 .ret⟩
def h35 : List (List Nat) := [[0, 1], [0, 1, 12], [0, 1], [4], [0, 1, 5], [0, 5, 6], [5], [0, 5, 6], [0, 5, 6, 18], [0, 5, 6], [0, 5, 6], [0, 5, 6], [0, 5, 6], [0, 5, 6], [4]]
theorem c35 : cFunc Try.prog 35 false h35 = some F35 := by kernel_rfl

/-- baton/shift.Zig -/
def F36 : IFunc := ⟨1, 10, [.tmp 2], false,
 .seq (.reg [0] [⟨(some 2), none, .mov (.c (.g (.int .u64 0)))⟩]) <|
 .seq (.reg [2] [⟨(some 3), none, .mov (.t 0)⟩,
    ⟨(some 4), none, .bin .shl (.t 3) (.c (.g (.int .u64 1)))⟩,
    ⟨(some 5), none, .conv .u64 (.t 4)⟩,
    ⟨(some 6), none, .mov (.t 0)⟩,
    ⟨(some 7), none, .bin .shr (.t 6) (.c (.g (.int .u64 63)))⟩,
    ⟨(some 8), none, .conv .u64 (.t 7)⟩,
    ⟨(some 9), none, .bin .xor (.t 5) (.t 8)⟩,
    ⟨(some 2), none, .mov (.t 9)⟩]) <|
 .ret⟩
def h36 : List (List Nat) := [[0], [2]]
theorem c36 : cFunc Try.prog 36 false h36 = some F36 := by kernel_rfl

/-- baton/batonref01.Zig -/
def F37 : IFunc := ⟨1, 14, [.tmp 2], false,
 .seq (.reg [0] [⟨(some 2), none, .mov (.c (.g (.int .u64 0)))⟩]) <|
 .seq (.seq (.reg [0, 4] [⟨(some 3), none, .mov (.t 0)⟩,
     ⟨(some 4), none, .bin .geq (.t 3) (.c (.g (.int .i64 0)))⟩]) <|
  .cond [0] (.t 4)
   (.seq (.reg [2] [⟨(some 5), none, .mov (.t 0)⟩,
       ⟨(some 6), none, .conv .u64 (.t 5)⟩,
       ⟨(some 7), none, .bin .mul (.c (.g (.int .u64 2))) (.t 6)⟩,
       ⟨(some 2), none, .mov (.t 7)⟩]) <|
    .ret)
   (.skip)) <|
 .seq (.reg [2] [⟨(some 8), none, .mov (.t 0)⟩,
    ⟨(some 9), none, .bin .add (.t 8) (.c (.g (.int .i64 1)))⟩,
    ⟨(some 10), none, .un .neg (.t 9)⟩,
    ⟨(some 11), none, .conv .u64 (.t 10)⟩,
    ⟨(some 12), none, .bin .mul (.c (.g (.int .u64 2))) (.t 11)⟩,
    ⟨(some 13), none, .bin .add (.t 12) (.c (.g (.int .u64 1)))⟩,
    ⟨(some 2), none, .mov (.t 13)⟩]) <|
 .ret⟩
def h37 : List (List Nat) := [[0], [0, 4], [0], [2], [2]]
theorem c37 : cFunc Try.prog 37 false h37 = some F37 := by kernel_rfl

/-- baton/shift.Zag -/
def F38 : IFunc := ⟨1, 11, [.tmp 2], false,
 .seq (.reg [0] [⟨(some 2), none, .mov (.c (.g (.int .i64 0)))⟩]) <|
 .seq (.reg [2] [⟨(some 3), none, .mov (.t 0)⟩,
    ⟨(some 4), none, .bin .shr (.t 3) (.c (.g (.int .u64 1)))⟩,
    ⟨(some 5), none, .conv .i64 (.t 4)⟩,
    ⟨(some 6), none, .mov (.t 0)⟩,
    ⟨(some 7), none, .bin .and (.t 6) (.c (.g (.int .u64 1)))⟩,
    ⟨(some 8), none, .conv .i64 (.t 7)⟩,
    ⟨(some 9), none, .un .neg (.t 8)⟩,
    ⟨(some 10), none, .bin .xor (.t 5) (.t 9)⟩,
    ⟨(some 2), none, .mov (.t 10)⟩]) <|
 .ret⟩
def h38 : List (List Nat) := [[0], [2]]
theorem c38 : cFunc Try.prog 38 false h38 = some F38 := by kernel_rfl

/-- baton/batonref01.Zag -/
def F39 : IFunc := ⟨1, 14, [.tmp 2], false,
 .seq (.reg [0] [⟨(some 2), none, .mov (.c (.g (.int .i64 0)))⟩]) <|
 .seq (.seq (.reg [0, 5] [⟨(some 3), none, .mov (.t 0)⟩,
     ⟨(some 4), none, .bin .rem (.t 3) (.c (.g (.int .u64 2)))⟩,
     ⟨(some 5), none, .bin .eql (.t 4) (.c (.g (.int .u64 0)))⟩]) <|
  .cond [0] (.t 5)
   (.seq (.reg [2] [⟨(some 6), none, .mov (.t 0)⟩,
       ⟨(some 7), none, .bin .quo (.t 6) (.c (.g (.int .u64 2)))⟩,
       ⟨(some 8), none, .conv .i64 (.t 7)⟩,
       ⟨(some 2), none, .mov (.t 8)⟩]) <|
    .ret)
   (.skip)) <|
 .seq (.reg [2] [⟨(some 9), none, .mov (.t 0)⟩,
    ⟨(some 10), none, .bin .quo (.t 9) (.c (.g (.int .u64 2)))⟩,
    ⟨(some 11), none, .conv .i64 (.t 10)⟩,
    ⟨(some 12), none, .un .neg (.t 11)⟩,
    ⟨(some 13), none, .bin .sub (.t 12) (.c (.g (.int .i64 1)))⟩,
    ⟨(some 2), none, .mov (.t 13)⟩]) <|
 .ret⟩
def h39 : List (List Nat) := [[0], [0, 5], [0], [2], [2]]
theorem c39 : cFunc Try.prog 39 false h39 = some F39 := by kernel_rfl

/-- baton/shift.Low -/
def F40 : IFunc := ⟨2, 17, [.tmp 4], false,
 .seq (.reg [0, 1] [⟨(some 4), none, .mov (.c (.g (.int .u64 0)))⟩]) <|
 .seq (.block [0, 1] 0 <|
  .seq (.reg [0, 1, 5] [⟨(some 6), none, .mov (.t 1)⟩,
     ⟨(some 7), none, .bin .leq (.t 6) (.c (.g (.int .i64 0)))⟩,
     ⟨(some 5), none, .mov (.t 7)⟩]) <|
  .cond [0, 1] (.t 5)
   (.seq (.reg [4] [⟨(some 4), none, .mov (.c (.g (.int .u64 0)))⟩]) <|
    .ret)
   (.seq (.reg [0, 1, 8] [⟨(some 9), none, .mov (.t 1)⟩,
       ⟨(some 10), none, .bin .geq (.t 9) (.c (.g (.int .i64 64)))⟩,
       ⟨(some 8), none, .mov (.t 10)⟩]) <|
    .cond [0, 1] (.t 8)
     (.seq (.reg [4] [⟨(some 11), none, .mov (.t 0)⟩,
         ⟨(some 4), none, .mov (.t 11)⟩]) <|
      .ret)
     (.skip))) <|
 .seq (.reg [4] [⟨(some 12), none, .mov (.t 0)⟩,
    ⟨(some 13), none, .mov (.t 1)⟩,
    ⟨(some 14), none, .bin .shl (.c (.g (.int .u64 1))) (.t 13)⟩,
    ⟨(some 15), none, .bin .sub (.t 14) (.c (.g (.int .u64 1)))⟩,
    ⟨(some 16), none, .bin .and (.t 12) (.t 15)⟩,
    ⟨(some 4), none, .mov (.t 16)⟩]) <|
 .ret⟩
def h40 : List (List Nat) := [[0, 1], [0, 1], [0, 1, 5], [0, 1], [4], [0, 1, 8], [0, 1], [4], [4]]
theorem c40 : cFunc Try.prog 40 false h40 = some F40 := by kernel_rfl

/-- baton/batonref01.Low -/
def F41 : IFunc := ⟨2, 14, [.tmp 4], false,
 .seq (.reg [0, 1] [⟨(some 4), none, .mov (.c (.g (.int .u64 0)))⟩]) <|
 .seq (.seq (.reg [0, 1, 6] [⟨(some 5), none, .mov (.t 1)⟩,
     ⟨(some 6), none, .bin .leq (.t 5) (.c (.g (.int .i64 0)))⟩]) <|
  .cond [0, 1] (.t 6)
   (.seq (.reg [4] [⟨(some 4), none, .mov (.c (.g (.int .u64 0)))⟩]) <|
    .ret)
   (.skip)) <|
 .seq (.seq (.reg [0, 1, 8] [⟨(some 7), none, .mov (.t 1)⟩,
     ⟨(some 8), none, .bin .geq (.t 7) (.c (.g (.int .i64 64)))⟩]) <|
  .cond [0, 1] (.t 8)
   (.seq (.reg [4] [⟨(some 9), none, .mov (.t 0)⟩,
       ⟨(some 4), none, .mov (.t 9)⟩]) <|
    .ret)
   (.skip)) <|
 .seq (.reg [4] [⟨(some 10), none, .mov (.t 0)⟩,
    ⟨(some 11), none, .mov (.t 1)⟩,
    ⟨(some 12), none, .call (.c (.g (.fn 58))) [(.t 11)]⟩,
    ⟨(some 13), none, .bin .rem (.t 10) (.t 12)⟩,
    ⟨(some 4), none, .mov (.t 13)⟩]) <|
 .ret⟩
def h41 : List (List Nat) := [[0, 1], [0, 1, 6], [0, 1], [4], [0, 1, 8], [0, 1], [4], [4]]
theorem c41 : cFunc Try.prog 41 false h41 = some F41 := by kernel_rfl

/-- baton/shift.Sign -/
def F42 : IFunc := ⟨2, 19, [.tmp 4], false,
 .seq (.reg [0, 1] [⟨(some 4), none, .mov (.c (.g (.int .i64 0)))⟩]) <|
 .seq (.seq (.reg [0, 1, 10] [⟨(some 5), none, .mov (.t 1)⟩,
     ⟨(some 6), none, .bin .lss (.t 5) (.c (.g (.int .i64 1)))⟩,
     ⟨(some 7), none, .mov (.t 6)⟩,
     ⟨(some 8), (some (7, false)), .mov (.t 1)⟩,
     ⟨(some 9), (some (7, false)), .bin .gtr (.t 8) (.c (.g (.int .i64 64)))⟩,
     ⟨(some 10), none, .pick (.t 7) (.c (.g (.bool true))) (.t 9)⟩]) <|
  .cond [0, 1] (.t 10)
   (.seq (.reg [4] [⟨(some 4), none, .mov (.c (.g (.int .i64 0)))⟩]) <|
    .ret)
   (.skip)) <|
 .seq (.reg [4] [⟨(some 11), none, .mov (.t 0)⟩,
    ⟨(some 12), none, .mov (.t 1)⟩,
    ⟨(some 13), none, .bin .sub (.c (.g (.int .i64 64))) (.t 12)⟩,
    ⟨(some 14), none, .bin .shl (.t 11) (.t 13)⟩,
    ⟨(some 15), none, .conv .i64 (.t 14)⟩,
    ⟨(some 16), none, .mov (.t 1)⟩,
    ⟨(some 17), none, .bin .sub (.c (.g (.int .i64 64))) (.t 16)⟩,
    ⟨(some 18), none, .bin .shr (.t 15) (.t 17)⟩,
    ⟨(some 4), none, .mov (.t 18)⟩]) <|
 .ret⟩
def h42 : List (List Nat) := [[0, 1], [0, 1, 10], [0, 1], [4], [4]]
theorem c42 : cFunc Try.prog 42 false h42 = some F42 := by kernel_rfl

/-- baton/batonref01.Sign -/
def F43 : IFunc := ⟨2, 33, [.tmp 4], false,
 .seq (.reg [0, 1] [⟨(some 4), none, .mov (.c (.g (.int .i64 0)))⟩]) <|
 .seq (.seq (.reg [0, 1, 12] [⟨(some 7), none, .mov (.t 1)⟩,
     ⟨(some 8), none, .bin .lss (.t 7) (.c (.g (.int .i64 1)))⟩,
     ⟨(some 9), none, .mov (.t 8)⟩,
     ⟨(some 10), (some (9, false)), .mov (.t 1)⟩,
     ⟨(some 11), (some (9, false)), .bin .gtr (.t 10) (.c (.g (.int .i64 64)))⟩,
     ⟨(some 12), none, .pick (.t 9) (.c (.g (.bool true))) (.t 11)⟩]) <|
  .cond [0, 1] (.t 12)
   (.seq (.reg [4] [⟨(some 4), none, .mov (.c (.g (.int .i64 0)))⟩]) <|
    .ret)
   (.skip)) <|
 .seq (.reg [0, 1, 5] [⟨(some 13), none, .mov (.t 0)⟩,
    ⟨(some 14), none, .mov (.t 1)⟩,
    ⟨(some 15), none, .bin .sub (.t 14) (.c (.g (.int .i64 1)))⟩,
    ⟨(some 16), none, .call (.c (.g (.fn 41))) [(.t 13), (.t 15)]⟩,
    ⟨(some 5), none, .mov (.t 16)⟩]) <|
 .seq (.reg [5, 6] [⟨(some 17), none, .mov (.t 0)⟩,
    ⟨(some 18), none, .mov (.t 1)⟩,
    ⟨(some 19), none, .call (.c (.g (.fn 41))) [(.t 17), (.t 18)]⟩,
    ⟨(some 20), none, .mov (.t 5)⟩,
    ⟨(some 21), none, .bin .sub (.t 19) (.t 20)⟩,
    ⟨(some 6), none, .mov (.t 21)⟩]) <|
 .seq (.seq (.reg [5, 6, 23] [⟨(some 22), none, .mov (.t 6)⟩,
     ⟨(some 23), none, .bin .eql (.t 22) (.c (.g (.int .u64 0)))⟩]) <|
  .cond [5, 6] (.t 23)
   (.seq (.reg [4] [⟨(some 24), none, .mov (.t 5)⟩,
       ⟨(some 25), none, .conv .i64 (.t 24)⟩,
       ⟨(some 4), none, .mov (.t 25)⟩]) <|
    .ret)
   (.skip)) <|
 .seq (.reg [4] [⟨(some 26), none, .mov (.t 5)⟩,
    ⟨(some 27), none, .conv .i64 (.t 26)⟩,
    ⟨(some 28), none, .mov (.t 6)⟩,
    ⟨(some 29), none, .bin .sub (.t 28) (.c (.g (.int .u64 1)))⟩,
    ⟨(some 30), none, .conv .i64 (.t 29)⟩,
    ⟨(some 31), none, .bin .sub (.t 27) (.t 30)⟩,
    ⟨(some 32), none, .bin .sub (.t 31) (.c (.g (.int .i64 1)))⟩,
    ⟨(some 4), none, .mov (.t 32)⟩]) <|
 .ret⟩
def h43 : List (List Nat) := [[0, 1], [0, 1, 12], [0, 1], [4], [0, 1, 5], [5, 6], [5, 6, 23], [5, 6], [4], [4]]
theorem c43 : cFunc Try.prog 43 false h43 = some F43 := by kernel_rfl

/-- baton/shift.Read -/
def L44_0 : IC :=
 .seq (.reg [1, 7, 21, 22, 23, 24] [⟨(some 24), none, .bin .lss (.t 23) (.t 22)⟩]) <|
 .seq (.cond [1, 7, 21, 22, 23] (.t 24)
   (.skip)
   (.exit 0)) <|
 .seq (.block [1, 7, 21, 22, 23] 1 <|
  .seq (.reg [1, 7, 8, 9, 21, 22, 23] [⟨(some 25), none, .mov (.t 23)⟩,
     ⟨(some 26), none, .iaddr 1 (.t 21) (.t 23)⟩,
     ⟨(some 27), none, .load false 1 (.t 26)⟩,
     ⟨(some 8), none, .mov (.t 25)⟩,
     ⟨(some 9), none, .mov (.t 27)⟩]) <|
  .seq (.seq (.reg [1, 7, 8, 9, 21, 22, 23, 41] [⟨(some 28), none, .mov (.t 8)⟩,
      ⟨(some 29), none, .bin .eql (.t 28) (.c (.g (.int .i64 9)))⟩,
      ⟨(some 30), none, .mov (.t 29)⟩,
      ⟨(some 31), (some (30, true)), .mov (.t 9)⟩,
      ⟨(some 32), (some (30, true)), .bin .gtr (.t 31) (.c (.g (.int .u8 1)))⟩,
      ⟨(some 33), none, .pick (.t 30) (.t 32) (.c (.g (.bool false)))⟩,
      ⟨(some 34), none, .mov (.t 33)⟩,
      ⟨(some 35), (some (34, false)), .mov (.t 8)⟩,
      ⟨(some 36), (some (34, false)), .bin .gtr (.t 35) (.c (.g (.int .i64 0)))⟩,
      ⟨(some 37), (some (34, false)), .mov (.t 36)⟩,
      ⟨(some 38), (some (37, true)), .mov (.t 9)⟩,
      ⟨(some 39), (some (37, true)), .bin .eql (.t 38) (.c (.g (.int .u8 0)))⟩,
      ⟨(some 40), (some (34, false)), .pick (.t 37) (.t 39) (.c (.g (.bool false)))⟩,
      ⟨(some 41), none, .pick (.t 34) (.c (.g (.bool true))) (.t 40)⟩]) <|
   .cond [1, 7, 8, 9, 21, 22, 23] (.t 41)
    (.seq (.reg [4, 5, 6] [⟨(some 4), none, .mov (.c (.g (.int .u64 0)))⟩,
        ⟨(some 5), none, .mov (.c (.g (.int .i64 0)))⟩,
        ⟨(some 6), none, .mov (.c (.g (.int .i64 3)))⟩]) <|
     .ret)
    (.skip)) <|
  .seq (.reg [1, 7, 8, 9, 21, 22, 23] [⟨(some 42), none, .mov (.t 7)⟩,
     ⟨(some 43), none, .mov (.t 9)⟩,
     ⟨(some 44), none, .bin .andNot (.t 43) (.c (.g (.int .u8 128)))⟩,
     ⟨(some 45), none, .conv .u64 (.t 44)⟩,
     ⟨(some 46), none, .mov (.t 8)⟩,
     ⟨(some 47), none, .bin .mul (.c (.g (.int .i64 7))) (.t 46)⟩,
     ⟨(some 48), none, .bin .shl (.t 45) (.t 47)⟩,
     ⟨(some 49), none, .bin .or (.t 42) (.t 48)⟩,
     ⟨(some 7), none, .mov (.t 49)⟩]) <|
  .seq (.reg [1, 7, 8, 21, 22, 23, 51] [⟨(some 50), none, .mov (.t 9)⟩,
     ⟨(some 51), none, .bin .lss (.t 50) (.c (.g (.int .u8 128)))⟩]) <|
  .cond [1, 7, 21, 22, 23] (.t 51)
   (.seq (.reg [4, 5, 6] [⟨(some 52), none, .mov (.t 7)⟩,
       ⟨(some 53), none, .mov (.t 1)⟩,
       ⟨(some 54), none, .mov (.t 8)⟩,
       ⟨(some 55), none, .bin .add (.t 53) (.t 54)⟩,
       ⟨(some 56), none, .bin .add (.t 55) (.c (.g (.int .i64 1)))⟩,
       ⟨(some 4), none, .mov (.t 52)⟩,
       ⟨(some 5), none, .mov (.t 56)⟩,
       ⟨(some 6), none, .mov (.c (.g (.int .i64 0)))⟩]) <|
    .ret)
   (.skip)) <|
 .reg [1, 7, 21, 22, 23] [⟨(some 57), none, .bin .add (.t 23) (.c (.g (.int .i64 1)))⟩,
   ⟨(some 23), none, .mov (.t 57)⟩]
def F44 : IFunc := ⟨2, 58, [.tmp 4, .tmp 5, .tmp 6], false,
 .seq (.reg [0, 1] [⟨(some 4), none, .mov (.c (.g (.int .u64 0)))⟩,
    ⟨(some 5), none, .mov (.c (.g (.int .i64 0)))⟩,
    ⟨(some 6), none, .mov (.c (.g (.int .i64 0)))⟩]) <|
 .seq (.seq (.reg [0, 1, 17] [⟨(some 10), none, .mov (.t 1)⟩,
     ⟨(some 11), none, .bin .lss (.t 10) (.c (.g (.int .i64 0)))⟩,
     ⟨(some 12), none, .mov (.t 11)⟩,
     ⟨(some 13), (some (12, false)), .mov (.t 1)⟩,
     ⟨(some 14), (some (12, false)), .mov (.t 0)⟩,
     ⟨(some 15), (some (12, false)), .lenS (.t 14)⟩,
     ⟨(some 16), (some (12, false)), .bin .gtr (.t 13) (.t 15)⟩,
     ⟨(some 17), none, .pick (.t 12) (.c (.g (.bool true))) (.t 16)⟩]) <|
  .cond [0, 1] (.t 17)
   (.seq (.reg [4, 5, 6] [⟨(some 4), none, .mov (.c (.g (.int .u64 0)))⟩,
       ⟨(some 5), none, .mov (.c (.g (.int .i64 0)))⟩,
       ⟨(some 6), none, .mov (.c (.g (.int .i64 1)))⟩]) <|
    .ret)
   (.skip)) <|
 .seq (.reg [0, 1, 7] [⟨(some 7), none, .mov (.c (.g (.int .u64 0)))⟩]) <|
 .seq (.seq (.reg [1, 7, 21, 22, 23] [⟨(some 18), none, .mov (.t 0)⟩,
     ⟨(some 19), none, .mov (.t 1)⟩,
     ⟨(some 20), none, .slcS (.t 18) (some (.t 19)) none⟩,
     ⟨(some 21), none, .convSB (.t 20)⟩,
     ⟨(some 22), none, .len (.t 21)⟩,
     ⟨(some 23), none, .mov (.c (.g (.int .i64 0)))⟩]) <|
  .block [] 0 <|
  .loop [1, 7, 21, 22, 23] [] L44_0) <|
 .seq (.reg [4, 5, 6] [⟨(some 4), none, .mov (.c (.g (.int .u64 0)))⟩,
    ⟨(some 5), none, .mov (.c (.g (.int .i64 0)))⟩,
    ⟨(some 6), none, .mov (.c (.g (.int .i64 2)))⟩]) <|
 .ret⟩
def h44 : List (List Nat) := [[0, 1], [0, 1, 17], [0, 1], [4, 5, 6], [0, 1, 7], [1, 7, 21, 22, 23], [], [1, 7, 21, 22, 23], [1, 7, 21, 22, 23, 24], [1, 7, 21, 22, 23], [1, 7, 21, 22, 23], [1, 7, 8, 9, 21, 22, 23], [1, 7, 8, 9, 21, 22, 23, 41], [1, 7, 8, 9, 21, 22, 23], [4, 5, 6], [1, 7, 8, 9, 21, 22, 23], [1, 7, 8, 21, 22, 23, 51], [1, 7, 21, 22, 23], [4, 5, 6], [1, 7, 21, 22, 23], [4, 5, 6]]
theorem c44 : cFunc Try.prog 44 false h44 = some F44 := by kernel_rfl

/-- baton/batonref01.Read -/
def L45_0 : IC :=
 .seq (.block [0, 1, 7, 8, 9] 1 <|
  .seq (.seq (.reg [0, 1, 7, 8, 9, 26] [⟨(some 21), none, .mov (.t 1)⟩,
      ⟨(some 22), none, .mov (.t 9)⟩,
      ⟨(some 23), none, .bin .add (.t 21) (.t 22)⟩,
      ⟨(some 24), none, .mov (.t 0)⟩,
      ⟨(some 25), none, .lenS (.t 24)⟩,
      ⟨(some 26), none, .bin .geq (.t 23) (.t 25)⟩]) <|
   .cond [0, 1, 7, 8, 9] (.t 26)
    (.seq (.reg [4, 5, 6] [⟨(some 4), none, .mov (.c (.g (.int .u64 0)))⟩,
        ⟨(some 5), none, .mov (.c (.g (.int .i64 0)))⟩,
        ⟨(some 6), none, .mov (.c (.g (.int .i64 2)))⟩]) <|
     .ret)
    (.skip)) <|
  .seq (.reg [0, 1, 7, 8, 9, 10] [⟨(some 27), none, .mov (.t 0)⟩,
     ⟨(some 28), none, .mov (.t 1)⟩,
     ⟨(some 29), none, .mov (.t 9)⟩,
     ⟨(some 30), none, .bin .add (.t 28) (.t 29)⟩,
     ⟨(some 31), none, .index (.t 27) (.t 30)⟩,
     ⟨(some 10), none, .mov (.t 31)⟩]) <|
  .seq (.seq (.reg [0, 1, 7, 8, 9, 10, 45] [⟨(some 32), none, .mov (.t 9)⟩,
      ⟨(some 33), none, .bin .eql (.t 32) (.c (.g (.int .i64 9)))⟩,
      ⟨(some 34), none, .mov (.t 33)⟩,
      ⟨(some 35), (some (34, true)), .mov (.t 10)⟩,
      ⟨(some 36), (some (34, true)), .bin .gtr (.t 35) (.c (.g (.int .u8 1)))⟩,
      ⟨(some 37), none, .pick (.t 34) (.t 36) (.c (.g (.bool false)))⟩,
      ⟨(some 38), none, .mov (.t 37)⟩,
      ⟨(some 39), (some (38, false)), .mov (.t 9)⟩,
      ⟨(some 40), (some (38, false)), .bin .gtr (.t 39) (.c (.g (.int .i64 0)))⟩,
      ⟨(some 41), (some (38, false)), .mov (.t 40)⟩,
      ⟨(some 42), (some (41, true)), .mov (.t 10)⟩,
      ⟨(some 43), (some (41, true)), .bin .eql (.t 42) (.c (.g (.int .u8 0)))⟩,
      ⟨(some 44), (some (38, false)), .pick (.t 41) (.t 43) (.c (.g (.bool false)))⟩,
      ⟨(some 45), none, .pick (.t 38) (.c (.g (.bool true))) (.t 44)⟩]) <|
   .cond [0, 1, 7, 8, 9, 10] (.t 45)
    (.seq (.reg [4, 5, 6] [⟨(some 4), none, .mov (.c (.g (.int .u64 0)))⟩,
        ⟨(some 5), none, .mov (.c (.g (.int .i64 0)))⟩,
        ⟨(some 6), none, .mov (.c (.g (.int .i64 3)))⟩]) <|
     .ret)
    (.skip)) <|
  .seq (.reg [0, 1, 7, 8, 9, 10] [⟨(some 46), none, .mov (.t 7)⟩,
     ⟨(some 47), none, .mov (.t 8)⟩,
     ⟨(some 48), none, .mov (.t 10)⟩,
     ⟨(some 49), none, .bin .rem (.t 48) (.c (.g (.int .u8 128)))⟩,
     ⟨(some 50), none, .conv .u64 (.t 49)⟩,
     ⟨(some 51), none, .bin .mul (.t 47) (.t 50)⟩,
     ⟨(some 52), none, .bin .add (.t 46) (.t 51)⟩,
     ⟨(some 7), none, .mov (.t 52)⟩]) <|
  .seq (.seq (.reg [0, 1, 7, 8, 9, 54] [⟨(some 53), none, .mov (.t 10)⟩,
      ⟨(some 54), none, .bin .lss (.t 53) (.c (.g (.int .u8 128)))⟩]) <|
   .cond [0, 1, 7, 8, 9] (.t 54)
    (.seq (.reg [4, 5, 6] [⟨(some 55), none, .mov (.t 7)⟩,
        ⟨(some 56), none, .mov (.t 1)⟩,
        ⟨(some 57), none, .mov (.t 9)⟩,
        ⟨(some 58), none, .bin .add (.t 56) (.t 57)⟩,
        ⟨(some 59), none, .bin .add (.t 58) (.c (.g (.int .i64 1)))⟩,
        ⟨(some 4), none, .mov (.t 55)⟩,
        ⟨(some 5), none, .mov (.t 59)⟩,
        ⟨(some 6), none, .mov (.c (.g (.int .i64 0)))⟩]) <|
     .ret)
    (.skip)) <|
  .reg [0, 1, 7, 8, 9] [⟨(some 60), none, .mov (.t 8)⟩,
    ⟨(some 61), none, .bin .mul (.t 60) (.c (.g (.int .u64 128)))⟩,
    ⟨(some 8), none, .mov (.t 61)⟩]) <|
 .reg [0, 1, 7, 8, 9] [⟨(some 19), none, .mov (.t 9)⟩,
   ⟨(some 20), none, .bin .add (.t 19) (.c (.g (.int .i64 1)))⟩,
   ⟨(some 9), none, .mov (.t 20)⟩]
def F45 : IFunc := ⟨2, 62, [.tmp 4, .tmp 5, .tmp 6], false,
 .seq (.reg [0, 1] [⟨(some 4), none, .mov (.c (.g (.int .u64 0)))⟩,
    ⟨(some 5), none, .mov (.c (.g (.int .i64 0)))⟩,
    ⟨(some 6), none, .mov (.c (.g (.int .i64 0)))⟩]) <|
 .seq (.seq (.reg [0, 1, 18] [⟨(some 11), none, .mov (.t 1)⟩,
     ⟨(some 12), none, .bin .lss (.t 11) (.c (.g (.int .i64 0)))⟩,
     ⟨(some 13), none, .mov (.t 12)⟩,
     ⟨(some 14), (some (13, false)), .mov (.t 1)⟩,
     ⟨(some 15), (some (13, false)), .mov (.t 0)⟩,
     ⟨(some 16), (some (13, false)), .lenS (.t 15)⟩,
     ⟨(some 17), (some (13, false)), .bin .gtr (.t 14) (.t 16)⟩,
     ⟨(some 18), none, .pick (.t 13) (.c (.g (.bool true))) (.t 17)⟩]) <|
  .cond [0, 1] (.t 18)
   (.seq (.reg [4, 5, 6] [⟨(some 4), none, .mov (.c (.g (.int .u64 0)))⟩,
       ⟨(some 5), none, .mov (.c (.g (.int .i64 0)))⟩,
       ⟨(some 6), none, .mov (.c (.g (.int .i64 1)))⟩]) <|
    .ret)
   (.skip)) <|
 .seq (.reg [0, 1, 7] [⟨(some 7), none, .mov (.c (.g (.int .u64 0)))⟩]) <|
 .seq (.reg [0, 1, 7, 8] [⟨(some 8), none, .mov (.c (.g (.int .u64 1)))⟩]) <|
 .seq (.reg [0, 1, 7, 8, 9] [⟨(some 9), none, .mov (.c (.g (.int .i64 0)))⟩]) <|
 .block [4, 5, 6] 0 <|
 .loop [0, 1, 7, 8, 9] [] L45_0⟩
def h45 : List (List Nat) := [[0, 1], [0, 1, 18], [0, 1], [4, 5, 6], [0, 1, 7], [0, 1, 7, 8], [0, 1, 7, 8, 9], [4, 5, 6], [0, 1, 7, 8, 9], [0, 1, 7, 8, 9], [0, 1, 7, 8, 9, 26], [0, 1, 7, 8, 9], [4, 5, 6], [0, 1, 7, 8, 9, 10], [0, 1, 7, 8, 9, 10, 45], [0, 1, 7, 8, 9, 10], [4, 5, 6], [0, 1, 7, 8, 9, 10], [0, 1, 7, 8, 9, 54], [0, 1, 7, 8, 9], [4, 5, 6], [0, 1, 7, 8, 9], [0, 1, 7, 8, 9]]
theorem c45 : cFunc Try.prog 45 false h45 = some F45 := by kernel_rfl

/-- baton/shift.Var -/
def L46_0 : IC :=
 .seq (.seq (.reg [0, 3, 5] [⟨(some 4), none, .mov (.t 0)⟩,
     ⟨(some 5), none, .bin .geq (.t 4) (.c (.g (.int .u64 128)))⟩]) <|
  .cond [0, 3] (.t 5)
   (.skip)
   (.exit 0)) <|
 .seq (.block [0, 3] 1 <|
  .reg [0, 3] [⟨(some 8), none, .mov (.t 3)⟩,
    ⟨(some 9), none, .mov (.t 0)⟩,
    ⟨(some 10), none, .conv .u8 (.t 9)⟩,
    ⟨(some 11), none, .bin .or (.t 10) (.c (.g (.int .u8 128)))⟩,
    ⟨(some 12), none, .bslice 1 1 [.int .u8 0] [(0, 1, (.t 11))]⟩,
    ⟨(some 13), none, .app 1 1 (.t 8) (.t 12)⟩,
    ⟨(some 3), none, .mov (.t 13)⟩]) <|
 .reg [0, 3] [⟨(some 6), none, .mov (.t 0)⟩,
   ⟨(some 7), none, .bin .shr (.t 6) (.c (.g (.int .u64 7)))⟩,
   ⟨(some 0), none, .mov (.t 7)⟩]
def F46 : IFunc := ⟨1, 20, [.tmp 2], false,
 .seq (.reg [0] [⟨(some 2), none, .mov (.c (.g (.str [])))⟩]) <|
 .seq (.reg [0, 3] [⟨(some 3), none, .nres 1⟩]) <|
 .seq (.block [0, 3] 0 <|
  .loop [0, 3] [] L46_0) <|
 .seq (.reg [2] [⟨(some 14), none, .mov (.t 3)⟩,
    ⟨(some 15), none, .mov (.t 0)⟩,
    ⟨(some 16), none, .conv .u8 (.t 15)⟩,
    ⟨(some 17), none, .bslice 1 1 [.int .u8 0] [(0, 1, (.t 16))]⟩,
    ⟨(some 18), none, .app 1 1 (.t 14) (.t 17)⟩,
    ⟨(some 19), none, .convBS (.t 18)⟩,
    ⟨(some 2), none, .mov (.t 19)⟩]) <|
 .ret⟩
def h46 : List (List Nat) := [[0], [0, 3], [0, 3], [0, 3], [0, 3, 5], [0, 3], [0, 3], [0, 3], [0, 3], [2]]
theorem c46 : cFunc Try.prog 46 false h46 = some F46 := by kernel_rfl

/-- baton/batonref01.Var -/
def L47_0 : IC :=
 .seq (.seq (.reg [0, 3, 5] [⟨(some 4), none, .mov (.t 0)⟩,
     ⟨(some 5), none, .bin .geq (.t 4) (.c (.g (.int .u64 128)))⟩]) <|
  .cond [0, 3] (.t 5)
   (.skip)
   (.exit 0)) <|
 .block [0, 3] 1 <|
 .seq (.reg [0, 3] [⟨(some 6), none, .mov (.t 3)⟩,
    ⟨(some 7), none, .mov (.t 0)⟩,
    ⟨(some 8), none, .bin .rem (.t 7) (.c (.g (.int .u64 128)))⟩,
    ⟨(some 9), none, .bin .add (.t 8) (.c (.g (.int .u64 128)))⟩,
    ⟨(some 10), none, .conv .u8 (.t 9)⟩,
    ⟨(some 11), none, .bslice 1 1 [.int .u8 0] [(0, 1, (.t 10))]⟩,
    ⟨(some 12), none, .app 1 1 (.t 6) (.t 11)⟩,
    ⟨(some 3), none, .mov (.t 12)⟩]) <|
 .reg [0, 3] [⟨(some 13), none, .mov (.t 0)⟩,
   ⟨(some 14), none, .bin .quo (.t 13) (.c (.g (.int .u64 128)))⟩,
   ⟨(some 0), none, .mov (.t 14)⟩]
def F47 : IFunc := ⟨1, 21, [.tmp 2], false,
 .seq (.reg [0] [⟨(some 2), none, .mov (.c (.g (.str [])))⟩]) <|
 .seq (.reg [0, 3] [⟨(some 3), none, .nres 1⟩]) <|
 .seq (.block [0, 3] 0 <|
  .loop [0, 3] [] L47_0) <|
 .seq (.reg [2] [⟨(some 15), none, .mov (.t 3)⟩,
    ⟨(some 16), none, .mov (.t 0)⟩,
    ⟨(some 17), none, .conv .u8 (.t 16)⟩,
    ⟨(some 18), none, .bslice 1 1 [.int .u8 0] [(0, 1, (.t 17))]⟩,
    ⟨(some 19), none, .app 1 1 (.t 15) (.t 18)⟩,
    ⟨(some 20), none, .convBS (.t 19)⟩,
    ⟨(some 2), none, .mov (.t 20)⟩]) <|
 .ret⟩
def h47 : List (List Nat) := [[0], [0, 3], [0, 3], [0, 3], [0, 3, 5], [0, 3], [0, 3], [0, 3], [0, 3], [2]]
theorem c47 : cFunc Try.prog 47 false h47 = some F47 := by kernel_rfl

/-- baton/shift.Whose -/
def F48 : IFunc := ⟨1, 14, [.tmp 2, .tmp 3], false,
 .seq (.reg [0] [⟨(some 2), none, .mov (.c (.g (.int .i64 0)))⟩,
    ⟨(some 3), none, .mov (.c (.g (.int .i64 0)))⟩]) <|
 .seq (.seq (.reg [0, 9] [⟨(some 4), none, .mov (.t 0)⟩,
     ⟨(some 5), none, .bin .lss (.t 4) (.c (.g (.int .i64 0)))⟩,
     ⟨(some 6), none, .mov (.t 5)⟩,
     ⟨(some 7), (some (6, false)), .mov (.t 0)⟩,
     ⟨(some 8), (some (6, false)), .bin .gtr (.t 7) (.c (.g (.int .i64 1099511627775)))⟩,
     ⟨(some 9), none, .pick (.t 6) (.c (.g (.bool true))) (.t 8)⟩]) <|
  .cond [0] (.t 9)
   (.seq (.reg [2, 3] [⟨(some 2), none, .mov (.c (.g (.int .i64 (-1))))⟩,
       ⟨(some 3), none, .mov (.c (.g (.int .i64 (-1))))⟩]) <|
    .ret)
   (.skip)) <|
 .seq (.reg [2, 3] [⟨(some 10), none, .mov (.t 0)⟩,
    ⟨(some 11), none, .bin .and (.t 10) (.c (.g (.int .i64 15)))⟩,
    ⟨(some 12), none, .mov (.t 0)⟩,
    ⟨(some 13), none, .bin .shr (.t 12) (.c (.g (.int .u64 4)))⟩,
    ⟨(some 2), none, .mov (.t 11)⟩,
    ⟨(some 3), none, .mov (.t 13)⟩]) <|
 .ret⟩
def h48 : List (List Nat) := [[0], [0, 9], [0], [2, 3], [2, 3]]
theorem c48 : cFunc Try.prog 48 false h48 = some F48 := by kernel_rfl

/-- baton/batonref01.Whose -/
def F49 : IFunc := ⟨1, 14, [.tmp 2, .tmp 3], false,
 .seq (.reg [0] [⟨(some 2), none, .mov (.c (.g (.int .i64 0)))⟩,
    ⟨(some 3), none, .mov (.c (.g (.int .i64 0)))⟩]) <|
 .seq (.seq (.reg [0, 9] [⟨(some 4), none, .mov (.t 0)⟩,
     ⟨(some 5), none, .bin .lss (.t 4) (.c (.g (.int .i64 0)))⟩,
     ⟨(some 6), none, .mov (.t 5)⟩,
     ⟨(some 7), (some (6, false)), .mov (.t 0)⟩,
     ⟨(some 8), (some (6, false)), .bin .gtr (.t 7) (.c (.g (.int .i64 1099511627775)))⟩,
     ⟨(some 9), none, .pick (.t 6) (.c (.g (.bool true))) (.t 8)⟩]) <|
  .cond [0] (.t 9)
   (.seq (.reg [2, 3] [⟨(some 2), none, .mov (.c (.g (.int .i64 (-1))))⟩,
       ⟨(some 3), none, .mov (.c (.g (.int .i64 (-1))))⟩]) <|
    .ret)
   (.skip)) <|
 .seq (.reg [2, 3] [⟨(some 10), none, .mov (.t 0)⟩,
    ⟨(some 11), none, .bin .rem (.t 10) (.c (.g (.int .i64 16)))⟩,
    ⟨(some 12), none, .mov (.t 0)⟩,
    ⟨(some 13), none, .bin .quo (.t 12) (.c (.g (.int .i64 16)))⟩,
    ⟨(some 2), none, .mov (.t 11)⟩,
    ⟨(some 3), none, .mov (.t 13)⟩]) <|
 .ret⟩
def h49 : List (List Nat) := [[0], [0, 9], [0], [2, 3], [2, 3]]
theorem c49 : cFunc Try.prog 49 false h49 = some F49 := by kernel_rfl

/-- baton/shift.Who -/
def F50 : IFunc := ⟨2, 23, [.tmp 4], false,
 .seq (.reg [0, 1] [⟨(some 4), none, .mov (.c (.g (.int .i64 0)))⟩]) <|
 .seq (.seq (.reg [0, 1, 18] [⟨(some 5), none, .mov (.t 0)⟩,
     ⟨(some 6), none, .bin .lss (.t 5) (.c (.g (.int .i64 0)))⟩,
     ⟨(some 7), none, .mov (.t 6)⟩,
     ⟨(some 8), (some (7, false)), .mov (.t 0)⟩,
     ⟨(some 9), (some (7, false)), .bin .gtr (.t 8) (.c (.g (.int .i64 15)))⟩,
     ⟨(some 10), none, .pick (.t 7) (.c (.g (.bool true))) (.t 9)⟩,
     ⟨(some 11), none, .mov (.t 10)⟩,
     ⟨(some 12), (some (11, false)), .mov (.t 1)⟩,
     ⟨(some 13), (some (11, false)), .bin .lss (.t 12) (.c (.g (.int .i64 0)))⟩,
     ⟨(some 14), none, .pick (.t 11) (.c (.g (.bool true))) (.t 13)⟩,
     ⟨(some 15), none, .mov (.t 14)⟩,
     ⟨(some 16), (some (15, false)), .mov (.t 1)⟩,
     ⟨(some 17), (some (15, false)), .bin .gtr (.t 16) (.c (.g (.int .i64 68719476735)))⟩,
     ⟨(some 18), none, .pick (.t 15) (.c (.g (.bool true))) (.t 17)⟩]) <|
  .cond [0, 1] (.t 18)
   (.seq (.reg [4] [⟨(some 4), none, .mov (.c (.g (.int .i64 (-1))))⟩]) <|
    .ret)
   (.skip)) <|
 .seq (.reg [4] [⟨(some 19), none, .mov (.t 1)⟩,
    ⟨(some 20), none, .bin .shl (.t 19) (.c (.g (.int .u64 4)))⟩,
    ⟨(some 21), none, .mov (.t 0)⟩,
    ⟨(some 22), none, .bin .or (.t 20) (.t 21)⟩,
    ⟨(some 4), none, .mov (.t 22)⟩]) <|
 .ret⟩
def h50 : List (List Nat) := [[0, 1], [0, 1, 18], [0, 1], [4], [4]]
theorem c50 : cFunc Try.prog 50 false h50 = some F50 := by kernel_rfl

/-- baton/batonref01.Who -/
def F51 : IFunc := ⟨2, 23, [.tmp 4], false,
 .seq (.reg [0, 1] [⟨(some 4), none, .mov (.c (.g (.int .i64 0)))⟩]) <|
 .seq (.seq (.reg [0, 1, 18] [⟨(some 5), none, .mov (.t 0)⟩,
     ⟨(some 6), none, .bin .lss (.t 5) (.c (.g (.int .i64 0)))⟩,
     ⟨(some 7), none, .mov (.t 6)⟩,
     ⟨(some 8), (some (7, false)), .mov (.t 0)⟩,
     ⟨(some 9), (some (7, false)), .bin .gtr (.t 8) (.c (.g (.int .i64 15)))⟩,
     ⟨(some 10), none, .pick (.t 7) (.c (.g (.bool true))) (.t 9)⟩,
     ⟨(some 11), none, .mov (.t 10)⟩,
     ⟨(some 12), (some (11, false)), .mov (.t 1)⟩,
     ⟨(some 13), (some (11, false)), .bin .lss (.t 12) (.c (.g (.int .i64 0)))⟩,
     ⟨(some 14), none, .pick (.t 11) (.c (.g (.bool true))) (.t 13)⟩,
     ⟨(some 15), none, .mov (.t 14)⟩,
     ⟨(some 16), (some (15, false)), .mov (.t 1)⟩,
     ⟨(some 17), (some (15, false)), .bin .gtr (.t 16) (.c (.g (.int .i64 68719476735)))⟩,
     ⟨(some 18), none, .pick (.t 15) (.c (.g (.bool true))) (.t 17)⟩]) <|
  .cond [0, 1] (.t 18)
   (.seq (.reg [4] [⟨(some 4), none, .mov (.c (.g (.int .i64 (-1))))⟩]) <|
    .ret)
   (.skip)) <|
 .seq (.reg [4] [⟨(some 19), none, .mov (.t 1)⟩,
    ⟨(some 20), none, .bin .mul (.c (.g (.int .i64 16))) (.t 19)⟩,
    ⟨(some 21), none, .mov (.t 0)⟩,
    ⟨(some 22), none, .bin .add (.t 20) (.t 21)⟩,
    ⟨(some 4), none, .mov (.t 22)⟩]) <|
 .ret⟩
def h51 : List (List Nat) := [[0, 1], [0, 1, 18], [0, 1], [4], [4]]
theorem c51 : cFunc Try.prog 51 false h51 = some F51 := by kernel_rfl

/-- baton/sess.of -/
def F52 : IFunc := ⟨2, 9, [.cell 4 true 2], false,
 .seq (.reg [0, 1, 4] [⟨(some 4), none, .alloc [.z (.int .i64 0), .z (.int .i64 0)]⟩]) <|
 .seq (.reg [4] [⟨(some 5), none, .mov (.t 0)⟩,
    ⟨(some 6), none, .call (.c (.g (.fn 59))) [(.t 5)]⟩,
    ⟨(some 7), none, .mov (.t 1)⟩,
    ⟨(some 8), none, .build [.g (.int .i64 0), .g (.int .i64 0)] [(0, 1, (.t 6)), (1, 1, (.t 7))]⟩,
    ⟨none, none, .store 2 (.t 4) (.t 8)⟩]) <|
 .ret⟩
def h52 : List (List Nat) := [[0, 1, 4], [4]]
theorem c52 : cFunc Try.prog 52 false h52 = some F52 := by kernel_rfl

/-- (baton/sess.span).may -/
def F53 : IFunc := ⟨1, 16, [.tmp 2], false,
 .seq (.reg [1] [⟨(some 1), none, .box (.t 0)⟩,
    ⟨(some 2), none, .mov (.c (.g (.bool false)))⟩]) <|
 .seq (.reg [2] [⟨(some 3), none, .faddr 0 (.t 1)⟩,
    ⟨(some 4), none, .load false 1 (.t 3)⟩,
    ⟨(some 5), none, .bin .gtr (.t 4) (.c (.g (.int .i64 0)))⟩,
    ⟨(some 6), none, .mov (.t 5)⟩,
    ⟨(some 7), (some (6, true)), .faddr 1 (.t 1)⟩,
    ⟨(some 8), (some (6, true)), .load false 1 (.t 7)⟩,
    ⟨(some 9), (some (6, true)), .bin .geq (.t 8) (.c (.g (.int .i64 0)))⟩,
    ⟨(some 10), none, .pick (.t 6) (.t 9) (.c (.g (.bool false)))⟩,
    ⟨(some 11), none, .mov (.t 10)⟩,
    ⟨(some 12), (some (11, true)), .faddr 1 (.t 1)⟩,
    ⟨(some 13), (some (11, true)), .load false 1 (.t 12)⟩,
    ⟨(some 14), (some (11, true)), .bin .leq (.t 13) (.c (.g (.int .i64 1099511627775)))⟩,
    ⟨(some 15), none, .pick (.t 11) (.t 14) (.c (.g (.bool false)))⟩,
    ⟨(some 2), none, .mov (.t 15)⟩]) <|
 .ret⟩
def h53 : List (List Nat) := [[1], [2]]
theorem c53 : cFunc Try.prog 53 false h53 = some F53 := by kernel_rfl

/-- (baton/sess.safe).end -/
def F54 : IFunc := ⟨2, 8, [.tmp 4], false,
 .seq (.reg [0, 1] [⟨(some 4), none, .mov (.c (.g (.int .i64 0)))⟩]) <|
 .seq (.reg [4] [⟨(some 5), none, .mov (.t 1)⟩,
    ⟨(some 6), none, .mov (.t 0)⟩,
    ⟨(some 7), none, .bin .add (.t 5) (.t 6)⟩,
    ⟨(some 4), none, .mov (.t 7)⟩]) <|
 .ret⟩
def h54 : List (List Nat) := [[0, 1], [4]]
theorem c54 : cFunc Try.prog 54 false h54 = some F54 := by kernel_rfl

/-- (baton/sess.safe).half -/
def F55 : IFunc := ⟨2, 9, [.tmp 4], false,
 .seq (.reg [0, 1] [⟨(some 4), none, .mov (.c (.g (.int .i64 0)))⟩]) <|
 .seq (.reg [4] [⟨(some 5), none, .mov (.t 1)⟩,
    ⟨(some 6), none, .mov (.t 0)⟩,
    ⟨(some 7), none, .bin .shr (.t 6) (.c (.g (.int .u64 1)))⟩,
    ⟨(some 8), none, .bin .add (.t 5) (.t 7)⟩,
    ⟨(some 4), none, .mov (.t 8)⟩]) <|
 .ret⟩
def h55 : List (List Nat) := [[0, 1], [4]]
theorem c55 : cFunc Try.prog 55 false h55 = some F55 := by kernel_rfl

/-- baton/batonref14.time -/
def F56 : IFunc := ⟨1, 9, [.tmp 2], false,
 .seq (.reg [0] [⟨(some 2), none, .mov (.c (.g (.bool false)))⟩]) <|
 .seq (.reg [2] [⟨(some 3), none, .mov (.t 0)⟩,
    ⟨(some 4), none, .bin .geq (.t 3) (.c (.g (.int .i64 0)))⟩,
    ⟨(some 5), none, .mov (.t 4)⟩,
    ⟨(some 6), (some (5, true)), .mov (.t 0)⟩,
    ⟨(some 7), (some (5, true)), .bin .leq (.t 6) (.c (.g (.int .i64 1099511627775)))⟩,
    ⟨(some 8), none, .pick (.t 5) (.t 7) (.c (.g (.bool false)))⟩,
    ⟨(some 2), none, .mov (.t 8)⟩]) <|
 .ret⟩
def h56 : List (List Nat) := [[0], [2]]
theorem c56 : cFunc Try.prog 56 false h56 = some F56 := by kernel_rfl

/-- baton/batonref03.Muts -/
def L57_0 : IC :=
 .seq (.seq (.reg [0, 1, 5, 14] [⟨(some 11), none, .mov (.t 5)⟩,
     ⟨(some 12), none, .mov (.t 0)⟩,
     ⟨(some 13), none, .len (.t 12)⟩,
     ⟨(some 14), none, .bin .lss (.t 11) (.t 13)⟩]) <|
  .cond [0, 1, 5] (.t 14)
   (.skip)
   (.exit 0)) <|
 .seq (.block [0, 1, 5] 1 <|
  .seq (.drw [0, 1, 5, 25] 0 <|
   .take ⟨(some 17), none, .mov (.t 0)⟩ <|
   .take ⟨(some 18), none, .mov (.t 5)⟩ <|
   .take ⟨(some 19), none, .iaddr 4 (.t 17) (.t 18)⟩ <|
   .take ⟨(some 20), none, .load true 4 (.t 19)⟩ <|
   .take ⟨(some 21), none, .mov (.t 1)⟩ <|
   .take ⟨(some 22), none, .mov (.t 5)⟩ <|
   .take ⟨(some 23), none, .iaddr 4 (.t 21) (.t 22)⟩ <|
   .take ⟨(some 24), none, .load true 4 (.t 23)⟩ <|
   .free <|
   .take ⟨(some 25), none, .eqs true true [.b, .s, .s, .i] (.t 20) (.t 24)⟩ <|
   .leaf) <|
  .cond [0, 1, 5] (.t 25)
   (.seq (.reg [4] [⟨(some 4), none, .mov (.c (.g (.bool false)))⟩]) <|
    .ret)
   (.skip)) <|
 .reg [0, 1, 5] [⟨(some 15), none, .mov (.t 5)⟩,
   ⟨(some 16), none, .bin .add (.t 15) (.c (.g (.int .i64 1)))⟩,
   ⟨(some 5), none, .mov (.t 16)⟩]
def F57 : IFunc := ⟨2, 26, [.tmp 4], false,
 .seq (.reg [0, 1] [⟨(some 4), none, .mov (.c (.g (.bool false)))⟩]) <|
 .seq (.seq (.reg [0, 1, 10] [⟨(some 6), none, .mov (.t 0)⟩,
     ⟨(some 7), none, .len (.t 6)⟩,
     ⟨(some 8), none, .mov (.t 1)⟩,
     ⟨(some 9), none, .len (.t 8)⟩,
     ⟨(some 10), none, .bin .neq (.t 7) (.t 9)⟩]) <|
  .cond [0, 1] (.t 10)
   (.seq (.reg [4] [⟨(some 4), none, .mov (.c (.g (.bool false)))⟩]) <|
    .ret)
   (.skip)) <|
 .seq (.seq (.reg [0, 1, 5] [⟨(some 5), none, .mov (.c (.g (.int .i64 0)))⟩]) <|
  .block [] 0 <|
  .loop [0, 1, 5] [] L57_0) <|
 .seq (.reg [4] [⟨(some 4), none, .mov (.c (.g (.bool true)))⟩]) <|
 .ret⟩
def h57 : List (List Nat) := [[0, 1], [0, 1, 10], [0, 1], [4], [0, 1, 5], [], [0, 1, 5], [0, 1, 5, 14], [0, 1, 5], [0, 1, 5], [0, 1, 5, 25], [0, 1, 5], [4], [0, 1, 5], [4]]
theorem c57 : cFunc Try.prog 57 false h57 = some F57 := by kernel_rfl

/-- baton/batonref01.weight -/
def L58_0 : IC :=
 .seq (.seq (.reg [0, 3, 4, 7] [⟨(some 5), none, .mov (.t 4)⟩,
     ⟨(some 6), none, .mov (.t 0)⟩,
     ⟨(some 7), none, .bin .lss (.t 5) (.t 6)⟩]) <|
  .cond [0, 3, 4] (.t 7)
   (.skip)
   (.exit 0)) <|
 .seq (.block [0, 3, 4] 1 <|
  .reg [0, 3, 4] [⟨(some 10), none, .mov (.t 3)⟩,
    ⟨(some 11), none, .bin .mul (.c (.g (.int .u64 2))) (.t 10)⟩,
    ⟨(some 3), none, .mov (.t 11)⟩]) <|
 .reg [0, 3, 4] [⟨(some 8), none, .mov (.t 4)⟩,
   ⟨(some 9), none, .bin .add (.t 8) (.c (.g (.int .i64 1)))⟩,
   ⟨(some 4), none, .mov (.t 9)⟩]
def F58 : IFunc := ⟨1, 13, [.tmp 2], false,
 .seq (.reg [0] [⟨(some 2), none, .mov (.c (.g (.int .u64 0)))⟩]) <|
 .seq (.reg [0, 3] [⟨(some 3), none, .mov (.c (.g (.int .u64 1)))⟩]) <|
 .seq (.seq (.reg [0, 3, 4] [⟨(some 4), none, .mov (.c (.g (.int .i64 0)))⟩]) <|
  .block [3] 0 <|
  .loop [0, 3, 4] [] L58_0) <|
 .seq (.reg [2] [⟨(some 12), none, .mov (.t 3)⟩,
    ⟨(some 2), none, .mov (.t 12)⟩]) <|
 .ret⟩
def h58 : List (List Nat) := [[0], [0, 3], [0, 3, 4], [3], [0, 3, 4], [0, 3, 4, 7], [0, 3, 4], [0, 3, 4], [0, 3, 4], [0, 3, 4], [2]]
theorem c58 : cFunc Try.prog 58 false h58 = some F58 := by kernel_rfl

/-- baton/drift.Safe -/
def F59 : IFunc := ⟨1, 12, [.tmp 2], false,
 .seq (.reg [0] [⟨(some 2), none, .mov (.c (.g (.int .i64 0)))⟩]) <|
 .seq (.seq (.reg [0, 8] [⟨(some 3), none, .mov (.t 0)⟩,
     ⟨(some 4), none, .bin .lss (.t 3) (.c (.g (.int .i64 1)))⟩,
     ⟨(some 5), none, .mov (.t 4)⟩,
     ⟨(some 6), (some (5, false)), .mov (.t 0)⟩,
     ⟨(some 7), (some (5, false)), .bin .gtr (.t 6) (.c (.g (.int .i64 1000)))⟩,
     ⟨(some 8), none, .pick (.t 5) (.c (.g (.bool true))) (.t 7)⟩]) <|
  .cond [0] (.t 8)
   (.seq (.reg [2] [⟨(some 2), none, .mov (.c (.g (.int .i64 0)))⟩]) <|
    .ret)
   (.skip)) <|
 .seq (.reg [2] [⟨(some 9), none, .mov (.t 0)⟩,
    ⟨(some 10), none, .bin .mul (.t 9) (.c (.g (.int .i64 15)))⟩,
    ⟨(some 11), none, .bin .quo (.t 10) (.c (.g (.int .i64 17)))⟩,
    ⟨(some 2), none, .mov (.t 11)⟩]) <|
 .ret⟩
def h59 : List (List Nat) := [[0], [0, 8], [0], [2], [2]]
theorem c59 : cFunc Try.prog 59 false h59 = some F59 := by kernel_rfl

end Go.Proofs.Ytahjgmldkbbpaaa
