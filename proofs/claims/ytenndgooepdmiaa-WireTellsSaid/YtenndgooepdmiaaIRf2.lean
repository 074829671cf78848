/- The compiled functions of the seat, part IRf2. No conditions. -/
import Derived.Test.YtenndgooepdmiaaAMJ3
import Derived.Test.YtenndgooepdmiaaProg
import Derived.KernelRfl
namespace Go.Proofs.Ytenndgooepdmiaa
open Go Go.AM Go.Proofs
/-- baton/wire.mayCmp -/
def F51 : IFunc := ⟨1, 34, [.tmp 2], false,
 .seq (.reg [1] [⟨(some 1), none, .box (.t 0)⟩,
    ⟨(some 2), none, .mov (.c (.g (.bool false)))⟩]) <|
 .seq (.reg [2] [⟨(some 3), none, .faddr 0 (.t 1)⟩,
    ⟨(some 4), none, .load false 1 (.t 3)⟩,
    ⟨(some 5), none, .faddr 4 (.t 1)⟩,
    ⟨(some 6), none, .load false 1 (.t 5)⟩,
    ⟨(some 7), none, .call (.c (.g (.fn 48))) [(.t 4), (.t 6)]⟩,
    ⟨(some 8), none, .mov (.t 7)⟩,
    ⟨(some 9), (some (8, true)), .faddr 1 (.t 1)⟩,
    ⟨(some 10), (some (8, true)), .load false 1 (.t 9)⟩,
    ⟨(some 11), (some (8, true)), .bin .geq (.t 10) (.c (.g (.int .i64 1)))⟩,
    ⟨(some 12), none, .pick (.t 8) (.t 11) (.c (.g (.bool false)))⟩,
    ⟨(some 13), none, .mov (.t 12)⟩,
    ⟨(some 14), (some (13, true)), .faddr 1 (.t 1)⟩,
    ⟨(some 15), (some (13, true)), .load false 1 (.t 14)⟩,
    ⟨(some 16), (some (13, true)), .bin .leq (.t 15) (.c (.g (.int .i64 4)))⟩,
    ⟨(some 17), none, .pick (.t 13) (.t 16) (.c (.g (.bool false)))⟩,
    ⟨(some 18), none, .mov (.t 17)⟩,
    ⟨(some 19), (some (18, true)), .faddr 2 (.t 1)⟩,
    ⟨(some 20), (some (18, true)), .load false 1 (.t 19)⟩,
    ⟨(some 21), (some (18, true)), .bin .geq (.t 20) (.c (.g (.int .i64 1)))⟩,
    ⟨(some 22), none, .pick (.t 18) (.t 21) (.c (.g (.bool false)))⟩,
    ⟨(some 23), none, .mov (.t 22)⟩,
    ⟨(some 24), (some (23, true)), .faddr 2 (.t 1)⟩,
    ⟨(some 25), (some (23, true)), .load false 1 (.t 24)⟩,
    ⟨(some 26), (some (23, true)), .bin .leq (.t 25) (.c (.g (.int .i64 3)))⟩,
    ⟨(some 27), none, .pick (.t 23) (.t 26) (.c (.g (.bool false)))⟩,
    ⟨(some 28), none, .mov (.t 27)⟩,
    ⟨(some 29), (some (28, true)), .faddr 3 (.t 1)⟩,
    ⟨(some 30), (some (28, true)), .load false 1 (.t 29)⟩,
    ⟨(some 31), (some (28, true)), .bslice 1 1 [.int .i64 0] [(0, 1, (.t 30))]⟩,
    ⟨(some 32), (some (28, true)), .call (.c (.g (.fn 49))) [(.t 31)]⟩,
    ⟨(some 33), none, .pick (.t 28) (.t 32) (.c (.g (.bool false)))⟩,
    ⟨(some 2), none, .mov (.t 33)⟩]) <|
 .ret⟩
def h51 : List (List Nat) := [[1], [2]]
theorem c51 : cFunc Try.prog 51 false h51 = some F51 := by kernel_rfl

/-- baton/wire.all[baton/api.Mut] -/
def F52 : IFunc := ⟨3, 17, [.tmp 6], false,
 .seq (.reg [0, 1, 5] [⟨(some 5), none, .box (.t 2)⟩,
    ⟨(some 6), none, .mov (.c (.g (.bool false)))⟩]) <|
 .seq (.reg [6] [⟨(some 7), none, .mov (.t 0)⟩,
    ⟨(some 8), none, .len (.t 7)⟩,
    ⟨(some 9), none, .mov (.t 1)⟩,
    ⟨(some 10), none, .bin .leq (.t 8) (.t 9)⟩,
    ⟨(some 11), none, .mov (.t 10)⟩,
    ⟨(some 12), (some (11, true)), .mov (.t 0)⟩,
    ⟨(some 13), (some (11, true)), .mkfn 82 [(.t 5)]⟩,
    ⟨(some 14), (some (11, true)), .call (.c (.g (.fn 81))) [(.t 12), (.t 13)]⟩,
    ⟨(some 15), (some (11, true)), .un .not (.t 14)⟩,
    ⟨(some 16), none, .pick (.t 11) (.t 15) (.c (.g (.bool false)))⟩,
    ⟨(some 6), none, .mov (.t 16)⟩]) <|
 .ret⟩
def h52 : List (List Nat) := [[0, 1, 5], [6]]
theorem c52 : cFunc Try.prog 52 false h52 = some F52 := by kernel_rfl

/-- baton/wire.mayMut -/
def F53 : IFunc := ⟨1, 14, [.tmp 2], false,
 .seq (.reg [1] [⟨(some 1), none, .box (.t 0)⟩,
    ⟨(some 2), none, .mov (.c (.g (.bool false)))⟩]) <|
 .seq (.reg [2] [⟨(some 3), none, .faddr 1 (.t 1)⟩,
    ⟨(some 4), none, .load false 1 (.t 3)⟩,
    ⟨(some 5), none, .faddr 2 (.t 1)⟩,
    ⟨(some 6), none, .load false 1 (.t 5)⟩,
    ⟨(some 7), none, .call (.c (.g (.fn 48))) [(.t 4), (.t 6)]⟩,
    ⟨(some 8), none, .mov (.t 7)⟩,
    ⟨(some 9), (some (8, true)), .faddr 3 (.t 1)⟩,
    ⟨(some 10), (some (8, true)), .load false 1 (.t 9)⟩,
    ⟨(some 11), (some (8, true)), .bslice 1 1 [.int .i64 0] [(0, 1, (.t 10))]⟩,
    ⟨(some 12), (some (8, true)), .call (.c (.g (.fn 49))) [(.t 11)]⟩,
    ⟨(some 13), none, .pick (.t 8) (.t 12) (.c (.g (.bool false)))⟩,
    ⟨(some 2), none, .mov (.t 13)⟩]) <|
 .ret⟩
def h53 : List (List Nat) := [[1], [2]]
theorem c53 : cFunc Try.prog 53 false h53 = some F53 := by kernel_rfl

/-- baton/batonref03.number -/
def F54 : IFunc := ⟨1, 9, [.tmp 2], false,
 .seq (.reg [0] [⟨(some 2), none, .mov (.c (.g (.bool false)))⟩]) <|
 .seq (.reg [2] [⟨(some 3), none, .mov (.t 0)⟩,
    ⟨(some 4), none, .bin .geq (.t 3) (.c (.g (.int .i64 0)))⟩,
    ⟨(some 5), none, .mov (.t 4)⟩,
    ⟨(some 6), (some (5, true)), .mov (.t 0)⟩,
    ⟨(some 7), (some (5, true)), .bin .leq (.t 6) (.c (.g (.int .i64 1099511627775)))⟩,
    ⟨(some 8), none, .pick (.t 5) (.t 7) (.c (.g (.bool false)))⟩,
    ⟨(some 2), none, .mov (.t 8)⟩]) <|
 .ret⟩
def h54 : List (List Nat) := [[0], [2]]
theorem c54 : cFunc Try.prog 54 false h54 = some F54 := by kernel_rfl

/-- baton/batonref03.texts -/
def F55 : IFunc := ⟨2, 13, [.tmp 4], false,
 .seq (.reg [0, 1] [⟨(some 4), none, .mov (.c (.g (.bool false)))⟩]) <|
 .seq (.reg [4] [⟨(some 5), none, .mov (.t 0)⟩,
    ⟨(some 6), none, .lenS (.t 5)⟩,
    ⟨(some 7), none, .bin .leq (.t 6) (.c (.g (.int .i64 40)))⟩,
    ⟨(some 8), none, .mov (.t 7)⟩,
    ⟨(some 9), (some (8, true)), .mov (.t 1)⟩,
    ⟨(some 10), (some (8, true)), .lenS (.t 9)⟩,
    ⟨(some 11), (some (8, true)), .bin .leq (.t 10) (.c (.g (.int .i64 20)))⟩,
    ⟨(some 12), none, .pick (.t 8) (.t 11) (.c (.g (.bool false)))⟩,
    ⟨(some 4), none, .mov (.t 12)⟩]) <|
 .ret⟩
def h55 : List (List Nat) := [[0, 1], [4]]
theorem c55 : cFunc Try.prog 55 false h55 = some F55 := by kernel_rfl

/-- baton/batonref03.muts -/
def L56_0 : IC :=
 .seq (.seq (.reg [0, 3, 10] [⟨(some 7), none, .mov (.t 3)⟩,
     ⟨(some 8), none, .mov (.t 0)⟩,
     ⟨(some 9), none, .len (.t 8)⟩,
     ⟨(some 10), none, .bin .lss (.t 7) (.t 9)⟩]) <|
  .cond [0, 3] (.t 10)
   (.skip)
   (.exit 0)) <|
 .seq (.block [0, 3] 1 <|
  .seq (.drw [0, 3, 33] 0 <|
   .take ⟨(some 13), none, .mov (.t 0)⟩ <|
   .take ⟨(some 14), none, .mov (.t 3)⟩ <|
   .take ⟨(some 15), none, .iaddr 4 (.t 13) (.t 14)⟩ <|
   .take ⟨(some 16), none, .faddr 1 (.t 15)⟩ <|
   .take ⟨(some 17), none, .load false 1 (.t 16)⟩ <|
   .take ⟨(some 18), none, .mov (.t 0)⟩ <|
   .take ⟨(some 19), none, .mov (.t 3)⟩ <|
   .take ⟨(some 20), none, .iaddr 4 (.t 18) (.t 19)⟩ <|
   .take ⟨(some 21), none, .faddr 2 (.t 20)⟩ <|
   .take ⟨(some 22), none, .load false 1 (.t 21)⟩ <|
   .one ⟨(some 23), none, .call (.c (.g (.fn 55))) [(.t 17), (.t 22)]⟩ <|
   .take ⟨(some 24), none, .un .not (.t 23)⟩ <|
   .take ⟨(some 25), none, .mov (.t 24)⟩ <|
   .take ⟨(some 26), (some (25, false)), .mov (.t 0)⟩ <|
   .take ⟨(some 27), (some (25, false)), .mov (.t 3)⟩ <|
   .take ⟨(some 28), (some (25, false)), .iaddr 4 (.t 26) (.t 27)⟩ <|
   .take ⟨(some 29), (some (25, false)), .faddr 3 (.t 28)⟩ <|
   .one ⟨(some 30), (some (25, false)), .load false 1 (.t 29)⟩ <|
   .one ⟨(some 31), (some (25, false)), .call (.c (.g (.fn 54))) [(.t 30)]⟩ <|
   .take ⟨(some 32), (some (25, false)), .un .not (.t 31)⟩ <|
   .take ⟨(some 33), none, .pick (.t 25) (.c (.g (.bool true))) (.t 32)⟩ <|
   .leaf) <|
  .cond [0, 3] (.t 33)
   (.seq (.reg [2] [⟨(some 2), none, .mov (.c (.g (.bool false)))⟩]) <|
    .ret)
   (.skip)) <|
 .reg [0, 3] [⟨(some 11), none, .mov (.t 3)⟩,
   ⟨(some 12), none, .bin .add (.t 11) (.c (.g (.int .i64 1)))⟩,
   ⟨(some 3), none, .mov (.t 12)⟩]
def F56 : IFunc := ⟨1, 34, [.tmp 2], false,
 .seq (.reg [0] [⟨(some 2), none, .mov (.c (.g (.bool false)))⟩]) <|
 .seq (.seq (.reg [0, 6] [⟨(some 4), none, .mov (.t 0)⟩,
     ⟨(some 5), none, .len (.t 4)⟩,
     ⟨(some 6), none, .bin .gtr (.t 5) (.c (.g (.int .i64 4)))⟩]) <|
  .cond [0] (.t 6)
   (.seq (.reg [2] [⟨(some 2), none, .mov (.c (.g (.bool false)))⟩]) <|
    .ret)
   (.skip)) <|
 .seq (.seq (.reg [0, 3] [⟨(some 3), none, .mov (.c (.g (.int .i64 0)))⟩]) <|
  .block [] 0 <|
  .loop [0, 3] [] L56_0) <|
 .seq (.reg [2] [⟨(some 2), none, .mov (.c (.g (.bool true)))⟩]) <|
 .ret⟩
def h56 : List (List Nat) := [[0], [0, 6], [0], [2], [0, 3], [], [0, 3], [0, 3, 10], [0, 3], [0, 3], [0, 3, 33], [], [0, 3], [2], [0, 3], [2]]
theorem c56 : cFunc Try.prog 56 false h56 = some F56 := by kernel_rfl

/-- baton/batonref03.Muts -/
def L57_0 : IC :=
 .seq (.seq (.reg [0, 1, 5, 14] [⟨(some 11), none, .mov (.t 5)⟩,
     ⟨(some 12), none, .mov (.t 0)⟩,
     ⟨(some 13), none, .len (.t 12)⟩,
     ⟨(some 14), none, .bin .lss (.t 11) (.t 13)⟩]) <|
  .cond [0, 1, 5] (.t 14)
   (.skip)
   (.exit 0)) <|
 .seq (.block [0, 1, 5] 1 <|
  .seq (.drw [0, 1, 5, 25] 0 <|
   .take ⟨(some 17), none, .mov (.t 0)⟩ <|
   .take ⟨(some 18), none, .mov (.t 5)⟩ <|
   .take ⟨(some 19), none, .iaddr 4 (.t 17) (.t 18)⟩ <|
   .take ⟨(some 20), none, .load true 4 (.t 19)⟩ <|
   .take ⟨(some 21), none, .mov (.t 1)⟩ <|
   .take ⟨(some 22), none, .mov (.t 5)⟩ <|
   .take ⟨(some 23), none, .iaddr 4 (.t 21) (.t 22)⟩ <|
   .take ⟨(some 24), none, .load true 4 (.t 23)⟩ <|
   .free <|
   .take ⟨(some 25), none, .eqs true true [.b, .s, .s, .i] (.t 20) (.t 24)⟩ <|
   .leaf) <|
  .cond [0, 1, 5] (.t 25)
   (.seq (.reg [4] [⟨(some 4), none, .mov (.c (.g (.bool false)))⟩]) <|
    .ret)
   (.skip)) <|
 .reg [0, 1, 5] [⟨(some 15), none, .mov (.t 5)⟩,
   ⟨(some 16), none, .bin .add (.t 15) (.c (.g (.int .i64 1)))⟩,
   ⟨(some 5), none, .mov (.t 16)⟩]
def F57 : IFunc := ⟨2, 26, [.tmp 4], false,
 .seq (.reg [0, 1] [⟨(some 4), none, .mov (.c (.g (.bool false)))⟩]) <|
 .seq (.seq (.reg [0, 1, 10] [⟨(some 6), none, .mov (.t 0)⟩,
     ⟨(some 7), none, .len (.t 6)⟩,
     ⟨(some 8), none, .mov (.t 1)⟩,
     ⟨(some 9), none, .len (.t 8)⟩,
     ⟨(some 10), none, .bin .neq (.t 7) (.t 9)⟩]) <|
  .cond [0, 1] (.t 10)
   (.seq (.reg [4] [⟨(some 4), none, .mov (.c (.g (.bool false)))⟩]) <|
    .ret)
   (.skip)) <|
 .seq (.seq (.reg [0, 1, 5] [⟨(some 5), none, .mov (.c (.g (.int .i64 0)))⟩]) <|
  .block [] 0 <|
  .loop [0, 1, 5] [] L57_0) <|
 .seq (.reg [4] [⟨(some 4), none, .mov (.c (.g (.bool true)))⟩]) <|
 .ret⟩
def h57 : List (List Nat) := [[0, 1], [0, 1, 10], [0, 1], [4], [0, 1, 5], [], [0, 1, 5], [0, 1, 5, 14], [0, 1, 5], [0, 1, 5], [0, 1, 5, 25], [], [0, 1, 5], [4], [0, 1, 5], [4]]
theorem c57 : cFunc Try.prog 57 false h57 = some F57 := by kernel_rfl

/-- (*baton/wire.writer).kv -/
def F58 : IFunc := ⟨2, 22, [], false,
 .seq (.reg [0, 3] [⟨(some 3), none, .box (.t 1)⟩]) <|
 .seq (.reg [0, 3] [⟨(some 4), none, .mov (.t 0)⟩,
    ⟨(some 5), none, .faddr 0 (.t 3)⟩,
    ⟨(some 6), none, .load false 1 (.t 5)⟩,
    ⟨(some 7), none, .faddr 1 (.t 3)⟩,
    ⟨(some 8), none, .load false 1 (.t 7)⟩,
    ⟨(some 9), none, .bslice 1 2 [.str []] [(0, 1, (.t 6)), (1, 1, (.t 8))]⟩,
    ⟨(some 10), none, .call (.c (.g (.fn 29))) [(.t 4), (.t 9)]⟩]) <|
 .reg [] [⟨(some 11), none, .mov (.t 0)⟩,
   ⟨(some 12), none, .faddr 2 (.t 3)⟩,
   ⟨(some 13), none, .load false 1 (.t 12)⟩,
   ⟨(some 14), none, .faddr 3 (.t 3)⟩,
   ⟨(some 15), none, .load false 1 (.t 14)⟩,
   ⟨(some 16), none, .faddr 4 (.t 3)⟩,
   ⟨(some 17), none, .load false 1 (.t 16)⟩,
   ⟨(some 18), none, .faddr 5 (.t 3)⟩,
   ⟨(some 19), none, .load false 1 (.t 18)⟩,
   ⟨(some 20), none, .bslice 1 4 [.int .i64 0] [(0, 1, (.t 13)), (1, 1, (.t 15)), (2, 1, (.t 17)), (3, 1, (.t 19))]⟩,
   ⟨(some 21), none, .call (.c (.g (.fn 27))) [(.t 11), (.t 20)]⟩]⟩
def h58 : List (List Nat) := [[0, 3], [0, 3], []]
theorem c58 : cFunc Try.prog 58 false h58 = some F58 := by kernel_rfl

/-- baton/batonref03.putKV -/
def F59 : IFunc := ⟨1, 26, [.tmp 2], false,
 .seq (.reg [1] [⟨(some 1), none, .box (.t 0)⟩,
    ⟨(some 2), none, .mov (.c (.g (.str [])))⟩]) <|
 .seq (.drw [2] 0 <|
  .take ⟨(some 3), none, .faddr 0 (.t 1)⟩ <|
  .take ⟨(some 4), none, .load false 1 (.t 3)⟩ <|
  .take ⟨(some 6), none, .faddr 1 (.t 1)⟩ <|
  .take ⟨(some 7), none, .load false 1 (.t 6)⟩ <|
  .take ⟨(some 10), none, .faddr 2 (.t 1)⟩ <|
  .take ⟨(some 11), none, .load false 1 (.t 10)⟩ <|
  .take ⟨(some 14), none, .faddr 3 (.t 1)⟩ <|
  .take ⟨(some 15), none, .load false 1 (.t 14)⟩ <|
  .take ⟨(some 18), none, .faddr 4 (.t 1)⟩ <|
  .take ⟨(some 19), none, .load false 1 (.t 18)⟩ <|
  .take ⟨(some 22), none, .faddr 5 (.t 1)⟩ <|
  .take ⟨(some 23), none, .load false 1 (.t 22)⟩ <|
  .one ⟨(some 5), none, .call (.c (.g (.fn 34))) [(.t 4)]⟩ <|
  .one ⟨(some 8), none, .call (.c (.g (.fn 34))) [(.t 7)]⟩ <|
  .take ⟨(some 9), none, .bin .add (.t 5) (.t 8)⟩ <|
  .one ⟨(some 12), none, .call (.c (.g (.fn 32))) [(.t 11)]⟩ <|
  .take ⟨(some 13), none, .bin .add (.t 9) (.t 12)⟩ <|
  .one ⟨(some 16), none, .call (.c (.g (.fn 32))) [(.t 15)]⟩ <|
  .take ⟨(some 17), none, .bin .add (.t 13) (.t 16)⟩ <|
  .one ⟨(some 20), none, .call (.c (.g (.fn 32))) [(.t 19)]⟩ <|
  .take ⟨(some 21), none, .bin .add (.t 17) (.t 20)⟩ <|
  .one ⟨(some 24), none, .call (.c (.g (.fn 32))) [(.t 23)]⟩ <|
  .take ⟨(some 25), none, .bin .add (.t 21) (.t 24)⟩ <|
  .free <|
  .take ⟨(some 2), none, .mov (.t 25)⟩ <|
  .leaf) <|
 .ret⟩
def h59 : List (List Nat) := [[1], [2], []]
theorem c59 : cFunc Try.prog 59 false h59 = some F59 := by kernel_rfl

/-- baton/wire.list[baton/api.KV] -/
def L60_0 : IC :=
 .seq (.reg [0, 2, 8, 23, 24, 25] [⟨(some 25), none, .bin .lss (.t 24) (.t 23)⟩]) <|
 .seq (.cond [0, 2, 8, 23, 24] (.t 25)
   (.skip)
   (.exit 0)) <|
 .seq (.block [0, 2, 8, 23, 24] 1 <|
  .seq (.seq (.reg [0, 2, 8, 23, 24, 29] [⟨(some 26), none, .mov (.t 0)⟩,
      ⟨(some 27), none, .nilchk (.t 26)⟩,
      ⟨(some 28), none, .faddr 1 (.t 27)⟩,
      ⟨(some 29), none, .load false 1 (.t 28)⟩]) <|
   .cond [0, 2, 8, 23, 24] (.t 29)
    (.seq (.reg [6] [⟨(some 6), none, .nres 6⟩]) <|
     .ret)
    (.skip)) <|
  .reg [0, 2, 8, 23, 24] [⟨(some 30), none, .mov (.t 8)⟩,
    ⟨(some 31), none, .mov (.t 2)⟩,
    ⟨(some 32), none, .call (.t 31) []⟩,
    ⟨(some 33), none, .bslice 6 1 [.str [], .str [], .int .i64 0, .int .i64 0, .int .i64 0, .int .i64 0] [(0, 6, (.t 32))]⟩,
    ⟨(some 34), none, .app 6 64 (.t 30) (.t 33)⟩,
    ⟨(some 8), none, .mov (.t 34)⟩]) <|
 .reg [0, 2, 8, 23, 24] [⟨(some 35), none, .bin .add (.t 24) (.c (.g (.int .i64 1)))⟩,
   ⟨(some 24), none, .mov (.t 35)⟩]
def F60 : IFunc := ⟨3, 37, [.tmp 6], false,
 .seq (.reg [0, 1, 2] [⟨(some 6), none, .nres 6⟩]) <|
 .seq (.reg [0, 1, 2, 7] [⟨(some 9), none, .mov (.t 0)⟩,
    ⟨(some 10), none, .call (.c (.g (.fn 36))) [(.t 9)]⟩,
    ⟨(some 7), none, .mov (.t 10)⟩]) <|
 .seq (.reg [0, 2, 7] [⟨(some 11), none, .mov (.t 0)⟩,
    ⟨(some 12), none, .mov (.t 0)⟩,
    ⟨(some 13), none, .nilchk (.t 12)⟩,
    ⟨(some 14), none, .faddr 1 (.t 13)⟩,
    ⟨(some 15), none, .load false 1 (.t 14)⟩,
    ⟨(some 16), none, .mov (.t 15)⟩,
    ⟨(some 17), (some (16, false)), .mov (.t 7)⟩,
    ⟨(some 18), (some (16, false)), .mov (.t 1)⟩,
    ⟨(some 19), (some (16, false)), .bin .gtr (.t 17) (.t 18)⟩,
    ⟨(some 20), none, .pick (.t 16) (.c (.g (.bool true))) (.t 19)⟩,
    ⟨(some 21), none, .nilchk (.t 11)⟩,
    ⟨(some 22), none, .faddr 1 (.t 21)⟩,
    ⟨none, none, .store 1 (.t 22) (.t 20)⟩]) <|
 .seq (.reg [0, 2, 7, 8] [⟨(some 8), none, .nres 6⟩]) <|
 .seq (.seq (.reg [0, 2, 8, 23, 24] [⟨(some 23), none, .mov (.t 7)⟩,
     ⟨(some 24), none, .mov (.c (.g (.int .i64 0)))⟩]) <|
  .block [8] 0 <|
  .loop [0, 2, 8, 23, 24] [] L60_0) <|
 .seq (.reg [6] [⟨(some 36), none, .mov (.t 8)⟩,
    ⟨(some 6), none, .mov (.t 36)⟩]) <|
 .ret⟩
def h60 : List (List Nat) := [[0, 1, 2], [0, 1, 2, 7], [0, 2, 7], [0, 2, 7, 8], [0, 2, 8, 23, 24], [8], [0, 2, 8, 23, 24], [0, 2, 8, 23, 24, 25], [0, 2, 8, 23, 24], [0, 2, 8, 23, 24], [0, 2, 8, 23, 24, 29], [0, 2, 8, 23, 24], [6], [0, 2, 8, 23, 24], [0, 2, 8, 23, 24], [6]]
theorem c60 : cFunc Try.prog 60 false h60 = some F60 := by kernel_rfl

/-- (*baton/wire.reader).kv -/
def F61 : IFunc := ⟨1, 16, [.cell 2 true 6], false,
 .seq (.reg [0, 2] [⟨(some 2), none, .alloc [.z (.str []), .z (.str []), .z (.int .i64 0), .z (.int .i64 0), .z (.int .i64 0), .z (.int .i64 0)]⟩]) <|
 .seq (.reg [2] [⟨(some 3), none, .mov (.t 0)⟩,
    ⟨(some 4), none, .call (.c (.g (.fn 38))) [(.t 3)]⟩,
    ⟨(some 5), none, .mov (.t 0)⟩,
    ⟨(some 6), none, .call (.c (.g (.fn 38))) [(.t 5)]⟩,
    ⟨(some 7), none, .mov (.t 0)⟩,
    ⟨(some 8), none, .call (.c (.g (.fn 36))) [(.t 7)]⟩,
    ⟨(some 9), none, .mov (.t 0)⟩,
    ⟨(some 10), none, .call (.c (.g (.fn 36))) [(.t 9)]⟩,
    ⟨(some 11), none, .mov (.t 0)⟩,
    ⟨(some 12), none, .call (.c (.g (.fn 36))) [(.t 11)]⟩,
    ⟨(some 13), none, .mov (.t 0)⟩,
    ⟨(some 14), none, .call (.c (.g (.fn 36))) [(.t 13)]⟩,
    ⟨(some 15), none, .build [.g (.str []), .g (.str []), .g (.int .i64 0), .g (.int .i64 0), .g (.int .i64 0), .g (.int .i64 0)] [(0, 1, (.t 4)), (1, 1, (.t 6)), (2, 1, (.t 8)), (3, 1, (.t 10)), (4, 1, (.t 12)), (5, 1, (.t 14))]⟩,
    ⟨none, none, .store 6 (.t 2) (.t 15)⟩]) <|
 .ret⟩
def h61 : List (List Nat) := [[0, 2], [2]]
theorem c61 : cFunc Try.prog 61 false h61 = some F61 := by kernel_rfl

/-- baton/wire.list[baton/api.Event] -/
def L62_0 : IC :=
 .seq (.reg [0, 2, 8, 23, 24, 25] [⟨(some 25), none, .bin .lss (.t 24) (.t 23)⟩]) <|
 .seq (.cond [0, 2, 8, 23, 24] (.t 25)
   (.skip)
   (.exit 0)) <|
 .seq (.block [0, 2, 8, 23, 24] 1 <|
  .seq (.seq (.reg [0, 2, 8, 23, 24, 29] [⟨(some 26), none, .mov (.t 0)⟩,
      ⟨(some 27), none, .nilchk (.t 26)⟩,
      ⟨(some 28), none, .faddr 1 (.t 27)⟩,
      ⟨(some 29), none, .load false 1 (.t 28)⟩]) <|
   .cond [0, 2, 8, 23, 24] (.t 29)
    (.seq (.reg [6] [⟨(some 6), none, .nres 8⟩]) <|
     .ret)
    (.skip)) <|
  .reg [0, 2, 8, 23, 24] [⟨(some 30), none, .mov (.t 8)⟩,
    ⟨(some 31), none, .mov (.t 2)⟩,
    ⟨(some 32), none, .call (.t 31) []⟩,
    ⟨(some 33), none, .bslice 8 1 [.int .i64 0, .bool false, .str [], .str [], .int .i64 0, .int .i64 0, .int .i64 0, .int .i64 0] [(0, 8, (.t 32))]⟩,
    ⟨(some 34), none, .app 8 80 (.t 30) (.t 33)⟩,
    ⟨(some 8), none, .mov (.t 34)⟩]) <|
 .reg [0, 2, 8, 23, 24] [⟨(some 35), none, .bin .add (.t 24) (.c (.g (.int .i64 1)))⟩,
   ⟨(some 24), none, .mov (.t 35)⟩]
def F62 : IFunc := ⟨3, 37, [.tmp 6], false,
 .seq (.reg [0, 1, 2] [⟨(some 6), none, .nres 8⟩]) <|
 .seq (.reg [0, 1, 2, 7] [⟨(some 9), none, .mov (.t 0)⟩,
    ⟨(some 10), none, .call (.c (.g (.fn 36))) [(.t 9)]⟩,
    ⟨(some 7), none, .mov (.t 10)⟩]) <|
 .seq (.reg [0, 2, 7] [⟨(some 11), none, .mov (.t 0)⟩,
    ⟨(some 12), none, .mov (.t 0)⟩,
    ⟨(some 13), none, .nilchk (.t 12)⟩,
    ⟨(some 14), none, .faddr 1 (.t 13)⟩,
    ⟨(some 15), none, .load false 1 (.t 14)⟩,
    ⟨(some 16), none, .mov (.t 15)⟩,
    ⟨(some 17), (some (16, false)), .mov (.t 7)⟩,
    ⟨(some 18), (some (16, false)), .mov (.t 1)⟩,
    ⟨(some 19), (some (16, false)), .bin .gtr (.t 17) (.t 18)⟩,
    ⟨(some 20), none, .pick (.t 16) (.c (.g (.bool true))) (.t 19)⟩,
    ⟨(some 21), none, .nilchk (.t 11)⟩,
    ⟨(some 22), none, .faddr 1 (.t 21)⟩,
    ⟨none, none, .store 1 (.t 22) (.t 20)⟩]) <|
 .seq (.reg [0, 2, 7, 8] [⟨(some 8), none, .nres 8⟩]) <|
 .seq (.seq (.reg [0, 2, 8, 23, 24] [⟨(some 23), none, .mov (.t 7)⟩,
     ⟨(some 24), none, .mov (.c (.g (.int .i64 0)))⟩]) <|
  .block [8] 0 <|
  .loop [0, 2, 8, 23, 24] [] L62_0) <|
 .seq (.reg [6] [⟨(some 36), none, .mov (.t 8)⟩,
    ⟨(some 6), none, .mov (.t 36)⟩]) <|
 .ret⟩
def h62 : List (List Nat) := [[0, 1, 2], [0, 1, 2, 7], [0, 2, 7], [0, 2, 7, 8], [0, 2, 8, 23, 24], [8], [0, 2, 8, 23, 24], [0, 2, 8, 23, 24, 25], [0, 2, 8, 23, 24], [0, 2, 8, 23, 24], [0, 2, 8, 23, 24, 29], [0, 2, 8, 23, 24], [6], [0, 2, 8, 23, 24], [0, 2, 8, 23, 24], [6]]
theorem c62 : cFunc Try.prog 62 false h62 = some F62 := by kernel_rfl

/-- (*baton/wire.reader).event -/
def F63 : IFunc := ⟨1, 10, [.cell 2 true 8], false,
 .seq (.reg [0, 2] [⟨(some 2), none, .alloc [.z (.int .i64 0), .z (.bool false), .z (.str []), .z (.str []), .z (.int .i64 0), .z (.int .i64 0), .z (.int .i64 0), .z (.int .i64 0)]⟩]) <|
 .seq (.reg [2] [⟨(some 3), none, .mov (.t 0)⟩,
    ⟨(some 4), none, .call (.c (.g (.fn 36))) [(.t 3)]⟩,
    ⟨(some 5), none, .mov (.t 0)⟩,
    ⟨(some 6), none, .call (.c (.g (.fn 37))) [(.t 5)]⟩,
    ⟨(some 7), none, .mov (.t 0)⟩,
    ⟨(some 8), none, .call (.c (.g (.fn 61))) [(.t 7)]⟩,
    ⟨(some 9), none, .build [.g (.int .i64 0), .g (.bool false), .g (.str []), .g (.str []), .g (.int .i64 0), .g (.int .i64 0), .g (.int .i64 0), .g (.int .i64 0)] [(0, 1, (.t 4)), (1, 1, (.t 6)), (2, 6, (.t 8))]⟩,
    ⟨none, none, .store 8 (.t 2) (.t 9)⟩]) <|
 .ret⟩
def h63 : List (List Nat) := [[0, 2], [2]]
theorem c63 : cFunc Try.prog 63 false h63 = some F63 := by kernel_rfl

/-- (*baton/batonref03.reader).kv -/
def F64 : IFunc := ⟨1, 23, [.cell 2 true 6], false,
 .seq (.reg [0, 2] [⟨(some 2), none, .alloc [.z (.str []), .z (.str []), .z (.int .i64 0), .z (.int .i64 0), .z (.int .i64 0), .z (.int .i64 0)]⟩]) <|
 .seq (.reg [0, 2, 3] [⟨(some 4), none, .mov (.t 0)⟩,
    ⟨(some 5), none, .call (.c (.g (.fn 46))) [(.t 4)]⟩,
    ⟨(some 6), none, .build [.g (.str []), .g (.str []), .g (.int .i64 0), .g (.int .i64 0), .g (.int .i64 0), .g (.int .i64 0)] [(0, 1, (.t 5))]⟩,
    ⟨(some 3), none, .alloc [.z (.str []), .z (.str []), .z (.int .i64 0), .z (.int .i64 0), .z (.int .i64 0), .z (.int .i64 0)]⟩,
    ⟨none, none, .store 6 (.t 3) (.t 6)⟩]) <|
 .seq (.reg [0, 2, 3] [⟨(some 7), none, .mov (.t 0)⟩,
    ⟨(some 8), none, .call (.c (.g (.fn 46))) [(.t 7)]⟩,
    ⟨(some 9), none, .faddr 1 (.t 3)⟩,
    ⟨none, none, .store 1 (.t 9) (.t 8)⟩]) <|
 .seq (.reg [0, 2, 3] [⟨(some 10), none, .mov (.t 0)⟩,
    ⟨(some 11), none, .call (.c (.g (.fn 44))) [(.t 10)]⟩,
    ⟨(some 12), none, .faddr 2 (.t 3)⟩,
    ⟨none, none, .store 1 (.t 12) (.t 11)⟩]) <|
 .seq (.reg [0, 2, 3] [⟨(some 13), none, .mov (.t 0)⟩,
    ⟨(some 14), none, .call (.c (.g (.fn 44))) [(.t 13)]⟩,
    ⟨(some 15), none, .faddr 3 (.t 3)⟩,
    ⟨none, none, .store 1 (.t 15) (.t 14)⟩]) <|
 .seq (.reg [0, 2, 3] [⟨(some 16), none, .mov (.t 0)⟩,
    ⟨(some 17), none, .call (.c (.g (.fn 44))) [(.t 16)]⟩,
    ⟨(some 18), none, .faddr 4 (.t 3)⟩,
    ⟨none, none, .store 1 (.t 18) (.t 17)⟩]) <|
 .seq (.reg [2, 3] [⟨(some 19), none, .mov (.t 0)⟩,
    ⟨(some 20), none, .call (.c (.g (.fn 44))) [(.t 19)]⟩,
    ⟨(some 21), none, .faddr 5 (.t 3)⟩,
    ⟨none, none, .store 1 (.t 21) (.t 20)⟩]) <|
 .seq (.reg [2] [⟨(some 22), none, .load true 6 (.t 3)⟩,
    ⟨none, none, .store 6 (.t 2) (.t 22)⟩]) <|
 .ret⟩
def h64 : List (List Nat) := [[0, 2], [0, 2, 3], [0, 2, 3], [0, 2, 3], [0, 2, 3], [0, 2, 3], [2, 3], [2]]
theorem c64 : cFunc Try.prog 64 false h64 = some F64 := by kernel_rfl

/-- baton/wire.all[baton/api.KV] -/
def F65 : IFunc := ⟨3, 17, [.tmp 6], false,
 .seq (.reg [0, 1, 5] [⟨(some 5), none, .box (.t 2)⟩,
    ⟨(some 6), none, .mov (.c (.g (.bool false)))⟩]) <|
 .seq (.reg [6] [⟨(some 7), none, .mov (.t 0)⟩,
    ⟨(some 8), none, .len (.t 7)⟩,
    ⟨(some 9), none, .mov (.t 1)⟩,
    ⟨(some 10), none, .bin .leq (.t 8) (.t 9)⟩,
    ⟨(some 11), none, .mov (.t 10)⟩,
    ⟨(some 12), (some (11, true)), .mov (.t 0)⟩,
    ⟨(some 13), (some (11, true)), .mkfn 84 [(.t 5)]⟩,
    ⟨(some 14), (some (11, true)), .call (.c (.g (.fn 83))) [(.t 12), (.t 13)]⟩,
    ⟨(some 15), (some (11, true)), .un .not (.t 14)⟩,
    ⟨(some 16), none, .pick (.t 11) (.t 15) (.c (.g (.bool false)))⟩,
    ⟨(some 6), none, .mov (.t 16)⟩]) <|
 .ret⟩
def h65 : List (List Nat) := [[0, 1, 5], [6]]
theorem c65 : cFunc Try.prog 65 false h65 = some F65 := by kernel_rfl

/-- baton/wire.mayKV -/
def F66 : IFunc := ⟨1, 20, [.tmp 2], false,
 .seq (.reg [1] [⟨(some 1), none, .box (.t 0)⟩,
    ⟨(some 2), none, .mov (.c (.g (.bool false)))⟩]) <|
 .seq (.reg [2] [⟨(some 3), none, .faddr 0 (.t 1)⟩,
    ⟨(some 4), none, .load false 1 (.t 3)⟩,
    ⟨(some 5), none, .faddr 1 (.t 1)⟩,
    ⟨(some 6), none, .load false 1 (.t 5)⟩,
    ⟨(some 7), none, .call (.c (.g (.fn 48))) [(.t 4), (.t 6)]⟩,
    ⟨(some 8), none, .mov (.t 7)⟩,
    ⟨(some 9), (some (8, true)), .faddr 2 (.t 1)⟩,
    ⟨(some 10), (some (8, true)), .load false 1 (.t 9)⟩,
    ⟨(some 11), (some (8, true)), .faddr 3 (.t 1)⟩,
    ⟨(some 12), (some (8, true)), .load false 1 (.t 11)⟩,
    ⟨(some 13), (some (8, true)), .faddr 4 (.t 1)⟩,
    ⟨(some 14), (some (8, true)), .load false 1 (.t 13)⟩,
    ⟨(some 15), (some (8, true)), .faddr 5 (.t 1)⟩,
    ⟨(some 16), (some (8, true)), .load false 1 (.t 15)⟩,
    ⟨(some 17), (some (8, true)), .bslice 1 4 [.int .i64 0] [(0, 1, (.t 10)), (1, 1, (.t 12)), (2, 1, (.t 14)), (3, 1, (.t 16))]⟩,
    ⟨(some 18), (some (8, true)), .call (.c (.g (.fn 49))) [(.t 17)]⟩,
    ⟨(some 19), none, .pick (.t 8) (.t 18) (.c (.g (.bool false)))⟩,
    ⟨(some 2), none, .mov (.t 19)⟩]) <|
 .ret⟩
def h66 : List (List Nat) := [[1], [2]]
theorem c66 : cFunc Try.prog 66 false h66 = some F66 := by kernel_rfl

/-- baton/wire.all[baton/api.Event] -/
def F67 : IFunc := ⟨3, 17, [.tmp 6], false,
 .seq (.reg [0, 1, 5] [⟨(some 5), none, .box (.t 2)⟩,
    ⟨(some 6), none, .mov (.c (.g (.bool false)))⟩]) <|
 .seq (.reg [6] [⟨(some 7), none, .mov (.t 0)⟩,
    ⟨(some 8), none, .len (.t 7)⟩,
    ⟨(some 9), none, .mov (.t 1)⟩,
    ⟨(some 10), none, .bin .leq (.t 8) (.t 9)⟩,
    ⟨(some 11), none, .mov (.t 10)⟩,
    ⟨(some 12), (some (11, true)), .mov (.t 0)⟩,
    ⟨(some 13), (some (11, true)), .mkfn 86 [(.t 5)]⟩,
    ⟨(some 14), (some (11, true)), .call (.c (.g (.fn 85))) [(.t 12), (.t 13)]⟩,
    ⟨(some 15), (some (11, true)), .un .not (.t 14)⟩,
    ⟨(some 16), none, .pick (.t 11) (.t 15) (.c (.g (.bool false)))⟩,
    ⟨(some 6), none, .mov (.t 16)⟩]) <|
 .ret⟩
def h67 : List (List Nat) := [[0, 1, 5], [6]]
theorem c67 : cFunc Try.prog 67 false h67 = some F67 := by kernel_rfl

/-- baton/wire.mayEvent -/
def F68 : IFunc := ⟨1, 12, [.tmp 2], false,
 .seq (.reg [1] [⟨(some 1), none, .box (.t 0)⟩,
    ⟨(some 2), none, .mov (.c (.g (.bool false)))⟩]) <|
 .seq (.reg [2] [⟨(some 3), none, .faddr 2 (.t 1)⟩,
    ⟨(some 4), none, .load true 6 (.t 3)⟩,
    ⟨(some 5), none, .call (.c (.g (.fn 66))) [(.t 4)]⟩,
    ⟨(some 6), none, .mov (.t 5)⟩,
    ⟨(some 7), (some (6, true)), .faddr 0 (.t 1)⟩,
    ⟨(some 8), (some (6, true)), .load false 1 (.t 7)⟩,
    ⟨(some 9), (some (6, true)), .bslice 1 1 [.int .i64 0] [(0, 1, (.t 8))]⟩,
    ⟨(some 10), (some (6, true)), .call (.c (.g (.fn 49))) [(.t 9)]⟩,
    ⟨(some 11), none, .pick (.t 6) (.t 10) (.c (.g (.bool false)))⟩,
    ⟨(some 2), none, .mov (.t 11)⟩]) <|
 .ret⟩
def h68 : List (List Nat) := [[1], [2]]
theorem c68 : cFunc Try.prog 68 false h68 = some F68 := by kernel_rfl

/-- baton/batonref03.kv -/
def F69 : IFunc := ⟨1, 28, [.tmp 2], false,
 .seq (.reg [1] [⟨(some 1), none, .box (.t 0)⟩,
    ⟨(some 2), none, .mov (.c (.g (.bool false)))⟩]) <|
 .seq (.reg [2] [⟨(some 3), none, .faddr 0 (.t 1)⟩,
    ⟨(some 4), none, .load false 1 (.t 3)⟩,
    ⟨(some 5), none, .faddr 1 (.t 1)⟩,
    ⟨(some 6), none, .load false 1 (.t 5)⟩,
    ⟨(some 7), none, .call (.c (.g (.fn 55))) [(.t 4), (.t 6)]⟩,
    ⟨(some 8), none, .mov (.t 7)⟩,
    ⟨(some 9), (some (8, true)), .faddr 2 (.t 1)⟩,
    ⟨(some 10), (some (8, true)), .load false 1 (.t 9)⟩,
    ⟨(some 11), (some (8, true)), .call (.c (.g (.fn 54))) [(.t 10)]⟩,
    ⟨(some 12), none, .pick (.t 8) (.t 11) (.c (.g (.bool false)))⟩,
    ⟨(some 13), none, .mov (.t 12)⟩,
    ⟨(some 14), (some (13, true)), .faddr 3 (.t 1)⟩,
    ⟨(some 15), (some (13, true)), .load false 1 (.t 14)⟩,
    ⟨(some 16), (some (13, true)), .call (.c (.g (.fn 54))) [(.t 15)]⟩,
    ⟨(some 17), none, .pick (.t 13) (.t 16) (.c (.g (.bool false)))⟩,
    ⟨(some 18), none, .mov (.t 17)⟩,
    ⟨(some 19), (some (18, true)), .faddr 4 (.t 1)⟩,
    ⟨(some 20), (some (18, true)), .load false 1 (.t 19)⟩,
    ⟨(some 21), (some (18, true)), .call (.c (.g (.fn 54))) [(.t 20)]⟩,
    ⟨(some 22), none, .pick (.t 18) (.t 21) (.c (.g (.bool false)))⟩,
    ⟨(some 23), none, .mov (.t 22)⟩,
    ⟨(some 24), (some (23, true)), .faddr 5 (.t 1)⟩,
    ⟨(some 25), (some (23, true)), .load false 1 (.t 24)⟩,
    ⟨(some 26), (some (23, true)), .call (.c (.g (.fn 54))) [(.t 25)]⟩,
    ⟨(some 27), none, .pick (.t 23) (.t 26) (.c (.g (.bool false)))⟩,
    ⟨(some 2), none, .mov (.t 27)⟩]) <|
 .ret⟩
def h69 : List (List Nat) := [[1], [2]]
theorem c69 : cFunc Try.prog 69 false h69 = some F69 := by kernel_rfl

/-- baton/batonref03.KVs -/
def L70_0 : IC :=
 .seq (.seq (.reg [0, 1, 5, 14] [⟨(some 11), none, .mov (.t 5)⟩,
     ⟨(some 12), none, .mov (.t 0)⟩,
     ⟨(some 13), none, .len (.t 12)⟩,
     ⟨(some 14), none, .bin .lss (.t 11) (.t 13)⟩]) <|
  .cond [0, 1, 5] (.t 14)
   (.skip)
   (.exit 0)) <|
 .seq (.block [0, 1, 5] 1 <|
  .seq (.drw [0, 1, 5, 25] 0 <|
   .take ⟨(some 17), none, .mov (.t 0)⟩ <|
   .take ⟨(some 18), none, .mov (.t 5)⟩ <|
   .take ⟨(some 19), none, .iaddr 6 (.t 17) (.t 18)⟩ <|
   .take ⟨(some 20), none, .load true 6 (.t 19)⟩ <|
   .take ⟨(some 21), none, .mov (.t 1)⟩ <|
   .take ⟨(some 22), none, .mov (.t 5)⟩ <|
   .take ⟨(some 23), none, .iaddr 6 (.t 21) (.t 22)⟩ <|
   .take ⟨(some 24), none, .load true 6 (.t 23)⟩ <|
   .free <|
   .take ⟨(some 25), none, .eqs true true [.s, .s, .i, .i, .i, .i] (.t 20) (.t 24)⟩ <|
   .leaf) <|
  .cond [0, 1, 5] (.t 25)
   (.seq (.reg [4] [⟨(some 4), none, .mov (.c (.g (.bool false)))⟩]) <|
    .ret)
   (.skip)) <|
 .reg [0, 1, 5] [⟨(some 15), none, .mov (.t 5)⟩,
   ⟨(some 16), none, .bin .add (.t 15) (.c (.g (.int .i64 1)))⟩,
   ⟨(some 5), none, .mov (.t 16)⟩]
def F70 : IFunc := ⟨2, 26, [.tmp 4], false,
 .seq (.reg [0, 1] [⟨(some 4), none, .mov (.c (.g (.bool false)))⟩]) <|
 .seq (.seq (.reg [0, 1, 10] [⟨(some 6), none, .mov (.t 0)⟩,
     ⟨(some 7), none, .len (.t 6)⟩,
     ⟨(some 8), none, .mov (.t 1)⟩,
     ⟨(some 9), none, .len (.t 8)⟩,
     ⟨(some 10), none, .bin .neq (.t 7) (.t 9)⟩]) <|
  .cond [0, 1] (.t 10)
   (.seq (.reg [4] [⟨(some 4), none, .mov (.c (.g (.bool false)))⟩]) <|
    .ret)
   (.skip)) <|
 .seq (.seq (.reg [0, 1, 5] [⟨(some 5), none, .mov (.c (.g (.int .i64 0)))⟩]) <|
  .block [] 0 <|
  .loop [0, 1, 5] [] L70_0) <|
 .seq (.reg [4] [⟨(some 4), none, .mov (.c (.g (.bool true)))⟩]) <|
 .ret⟩
def h70 : List (List Nat) := [[0, 1], [0, 1, 10], [0, 1], [4], [0, 1, 5], [], [0, 1, 5], [0, 1, 5, 14], [0, 1, 5], [0, 1, 5], [0, 1, 5, 25], [], [0, 1, 5], [4], [0, 1, 5], [4]]
theorem c70 : cFunc Try.prog 70 false h70 = some F70 := by kernel_rfl

/-- baton/batonref03.Events -/
def L71_0 : IC :=
 .seq (.seq (.reg [0, 1, 5, 14] [⟨(some 11), none, .mov (.t 5)⟩,
     ⟨(some 12), none, .mov (.t 0)⟩,
     ⟨(some 13), none, .len (.t 12)⟩,
     ⟨(some 14), none, .bin .lss (.t 11) (.t 13)⟩]) <|
  .cond [0, 1, 5] (.t 14)
   (.skip)
   (.exit 0)) <|
 .seq (.block [0, 1, 5] 1 <|
  .seq (.drw [0, 1, 5, 25] 0 <|
   .take ⟨(some 17), none, .mov (.t 0)⟩ <|
   .take ⟨(some 18), none, .mov (.t 5)⟩ <|
   .take ⟨(some 19), none, .iaddr 8 (.t 17) (.t 18)⟩ <|
   .take ⟨(some 20), none, .load true 8 (.t 19)⟩ <|
   .take ⟨(some 21), none, .mov (.t 1)⟩ <|
   .take ⟨(some 22), none, .mov (.t 5)⟩ <|
   .take ⟨(some 23), none, .iaddr 8 (.t 21) (.t 22)⟩ <|
   .take ⟨(some 24), none, .load true 8 (.t 23)⟩ <|
   .free <|
   .take ⟨(some 25), none, .eqs true true [.i, .b, .s, .s, .i, .i, .i, .i] (.t 20) (.t 24)⟩ <|
   .leaf) <|
  .cond [0, 1, 5] (.t 25)
   (.seq (.reg [4] [⟨(some 4), none, .mov (.c (.g (.bool false)))⟩]) <|
    .ret)
   (.skip)) <|
 .reg [0, 1, 5] [⟨(some 15), none, .mov (.t 5)⟩,
   ⟨(some 16), none, .bin .add (.t 15) (.c (.g (.int .i64 1)))⟩,
   ⟨(some 5), none, .mov (.t 16)⟩]
def F71 : IFunc := ⟨2, 26, [.tmp 4], false,
 .seq (.reg [0, 1] [⟨(some 4), none, .mov (.c (.g (.bool false)))⟩]) <|
 .seq (.seq (.reg [0, 1, 10] [⟨(some 6), none, .mov (.t 0)⟩,
     ⟨(some 7), none, .len (.t 6)⟩,
     ⟨(some 8), none, .mov (.t 1)⟩,
     ⟨(some 9), none, .len (.t 8)⟩,
     ⟨(some 10), none, .bin .neq (.t 7) (.t 9)⟩]) <|
  .cond [0, 1] (.t 10)
   (.seq (.reg [4] [⟨(some 4), none, .mov (.c (.g (.bool false)))⟩]) <|
    .ret)
   (.skip)) <|
 .seq (.seq (.reg [0, 1, 5] [⟨(some 5), none, .mov (.c (.g (.int .i64 0)))⟩]) <|
  .block [] 0 <|
  .loop [0, 1, 5] [] L71_0) <|
 .seq (.reg [4] [⟨(some 4), none, .mov (.c (.g (.bool true)))⟩]) <|
 .ret⟩
def h71 : List (List Nat) := [[0, 1], [0, 1, 10], [0, 1], [4], [0, 1, 5], [], [0, 1, 5], [0, 1, 5, 14], [0, 1, 5], [0, 1, 5], [0, 1, 5, 25], [], [0, 1, 5], [4], [0, 1, 5], [4]]
theorem c71 : cFunc Try.prog 71 false h71 = some F71 := by kernel_rfl

/-- (*strings.Builder).WriteString -/
def F72 : IFunc := ⟨2, 19, [.tmp 4, .tmp 5], false,
 .seq (.reg [0, 1] [⟨(some 4), none, .mov (.c (.g (.int .i64 0)))⟩,
    ⟨(some 5), none, .mov (.c (.g (.nif)))⟩]) <|
 .seq (.reg [0, 1] [⟨(some 6), none, .mov (.t 0)⟩,
    ⟨(some 7), none, .call (.c (.g (.fn 87))) [(.t 6)]⟩]) <|
 .seq (.reg [1] [⟨(some 8), none, .mov (.t 0)⟩,
    ⟨(some 9), none, .mov (.t 0)⟩,
    ⟨(some 10), none, .nilchk (.t 9)⟩,
    ⟨(some 11), none, .faddr 1 (.t 10)⟩,
    ⟨(some 12), none, .load false 1 (.t 11)⟩,
    ⟨(some 13), none, .mov (.t 1)⟩,
    ⟨(some 14), none, .appT 5 (.t 12) (.t 13)⟩,
    ⟨(some 15), none, .nilchk (.t 8)⟩,
    ⟨(some 16), none, .faddr 1 (.t 15)⟩,
    ⟨none, none, .store 1 (.t 16) (.t 14)⟩]) <|
 .seq (.reg [4, 5] [⟨(some 17), none, .mov (.t 1)⟩,
    ⟨(some 18), none, .lenS (.t 17)⟩,
    ⟨(some 4), none, .mov (.t 18)⟩,
    ⟨(some 5), none, .mov (.c (.g (.nif)))⟩]) <|
 .ret⟩
def h72 : List (List Nat) := [[0, 1], [0, 1], [1], [4, 5]]
theorem c72 : cFunc Try.prog 72 false h72 = some F72 := by kernel_rfl

/-- baton/shift.Var -/
def L73_0 : IC :=
 .seq (.seq (.reg [0, 3, 5] [⟨(some 4), none, .mov (.t 0)⟩,
     ⟨(some 5), none, .bin .geq (.t 4) (.c (.g (.int .u64 128)))⟩]) <|
  .cond [0, 3] (.t 5)
   (.skip)
   (.exit 0)) <|
 .seq (.block [0, 3] 1 <|
  .reg [0, 3] [⟨(some 8), none, .mov (.t 3)⟩,
    ⟨(some 9), none, .mov (.t 0)⟩,
    ⟨(some 10), none, .conv .u8 (.t 9)⟩,
    ⟨(some 11), none, .bin .or (.t 10) (.c (.g (.int .u8 128)))⟩,
    ⟨(some 12), none, .bslice 1 1 [.int .u8 0] [(0, 1, (.t 11))]⟩,
    ⟨(some 13), none, .app 1 1 (.t 8) (.t 12)⟩,
    ⟨(some 3), none, .mov (.t 13)⟩]) <|
 .reg [0, 3] [⟨(some 6), none, .mov (.t 0)⟩,
   ⟨(some 7), none, .bin .shr (.t 6) (.c (.g (.int .u64 7)))⟩,
   ⟨(some 0), none, .mov (.t 7)⟩]
def F73 : IFunc := ⟨1, 20, [.tmp 2], false,
 .seq (.reg [0] [⟨(some 2), none, .mov (.c (.g (.str [])))⟩]) <|
 .seq (.reg [0, 3] [⟨(some 3), none, .nres 1⟩]) <|
 .seq (.block [0, 3] 0 <|
  .loop [0, 3] [] L73_0) <|
 .seq (.reg [2] [⟨(some 14), none, .mov (.t 3)⟩,
    ⟨(some 15), none, .mov (.t 0)⟩,
    ⟨(some 16), none, .conv .u8 (.t 15)⟩,
    ⟨(some 17), none, .bslice 1 1 [.int .u8 0] [(0, 1, (.t 16))]⟩,
    ⟨(some 18), none, .app 1 1 (.t 14) (.t 17)⟩,
    ⟨(some 19), none, .convBS (.t 18)⟩,
    ⟨(some 2), none, .mov (.t 19)⟩]) <|
 .ret⟩
def h73 : List (List Nat) := [[0], [0, 3], [0, 3], [0, 3], [0, 3, 5], [0, 3], [0, 3], [0, 3], [0, 3], [2]]
theorem c73 : cFunc Try.prog 73 false h73 = some F73 := by kernel_rfl

/-- baton/batonref01.Var -/
def L74_0 : IC :=
 .seq (.seq (.reg [0, 3, 5] [⟨(some 4), none, .mov (.t 0)⟩,
     ⟨(some 5), none, .bin .geq (.t 4) (.c (.g (.int .u64 128)))⟩]) <|
  .cond [0, 3] (.t 5)
   (.skip)
   (.exit 0)) <|
 .block [0, 3] 1 <|
 .seq (.reg [0, 3] [⟨(some 6), none, .mov (.t 3)⟩,
    ⟨(some 7), none, .mov (.t 0)⟩,
    ⟨(some 8), none, .bin .rem (.t 7) (.c (.g (.int .u64 128)))⟩,
    ⟨(some 9), none, .bin .add (.t 8) (.c (.g (.int .u64 128)))⟩,
    ⟨(some 10), none, .conv .u8 (.t 9)⟩,
    ⟨(some 11), none, .bslice 1 1 [.int .u8 0] [(0, 1, (.t 10))]⟩,
    ⟨(some 12), none, .app 1 1 (.t 6) (.t 11)⟩,
    ⟨(some 3), none, .mov (.t 12)⟩]) <|
 .reg [0, 3] [⟨(some 13), none, .mov (.t 0)⟩,
   ⟨(some 14), none, .bin .quo (.t 13) (.c (.g (.int .u64 128)))⟩,
   ⟨(some 0), none, .mov (.t 14)⟩]
def F74 : IFunc := ⟨1, 21, [.tmp 2], false,
 .seq (.reg [0] [⟨(some 2), none, .mov (.c (.g (.str [])))⟩]) <|
 .seq (.reg [0, 3] [⟨(some 3), none, .nres 1⟩]) <|
 .seq (.block [0, 3] 0 <|
  .loop [0, 3] [] L74_0) <|
 .seq (.reg [2] [⟨(some 15), none, .mov (.t 3)⟩,
    ⟨(some 16), none, .mov (.t 0)⟩,
    ⟨(some 17), none, .conv .u8 (.t 16)⟩,
    ⟨(some 18), none, .bslice 1 1 [.int .u8 0] [(0, 1, (.t 17))]⟩,
    ⟨(some 19), none, .app 1 1 (.t 15) (.t 18)⟩,
    ⟨(some 20), none, .convBS (.t 19)⟩,
    ⟨(some 2), none, .mov (.t 20)⟩]) <|
 .ret⟩
def h74 : List (List Nat) := [[0], [0, 3], [0, 3], [0, 3], [0, 3, 5], [0, 3], [0, 3], [0, 3], [0, 3], [2]]
theorem c74 : cFunc Try.prog 74 false h74 = some F74 := by kernel_rfl

/-- baton/shift.Read -/
def L75_0 : IC :=
 .seq (.reg [1, 7, 21, 22, 23, 24] [⟨(some 24), none, .bin .lss (.t 23) (.t 22)⟩]) <|
 .seq (.cond [1, 7, 21, 22, 23] (.t 24)
   (.skip)
   (.exit 0)) <|
 .seq (.block [1, 7, 21, 22, 23] 1 <|
  .seq (.reg [1, 7, 8, 9, 21, 22, 23] [⟨(some 25), none, .mov (.t 23)⟩,
     ⟨(some 26), none, .iaddr 1 (.t 21) (.t 23)⟩,
     ⟨(some 27), none, .load false 1 (.t 26)⟩,
     ⟨(some 8), none, .mov (.t 25)⟩,
     ⟨(some 9), none, .mov (.t 27)⟩]) <|
  .seq (.seq (.reg [1, 7, 8, 9, 21, 22, 23, 41] [⟨(some 28), none, .mov (.t 8)⟩,
      ⟨(some 29), none, .bin .eql (.t 28) (.c (.g (.int .i64 9)))⟩,
      ⟨(some 30), none, .mov (.t 29)⟩,
      ⟨(some 31), (some (30, true)), .mov (.t 9)⟩,
      ⟨(some 32), (some (30, true)), .bin .gtr (.t 31) (.c (.g (.int .u8 1)))⟩,
      ⟨(some 33), none, .pick (.t 30) (.t 32) (.c (.g (.bool false)))⟩,
      ⟨(some 34), none, .mov (.t 33)⟩,
      ⟨(some 35), (some (34, false)), .mov (.t 8)⟩,
      ⟨(some 36), (some (34, false)), .bin .gtr (.t 35) (.c (.g (.int .i64 0)))⟩,
      ⟨(some 37), (some (34, false)), .mov (.t 36)⟩,
      ⟨(some 38), (some (37, true)), .mov (.t 9)⟩,
      ⟨(some 39), (some (37, true)), .bin .eql (.t 38) (.c (.g (.int .u8 0)))⟩,
      ⟨(some 40), (some (34, false)), .pick (.t 37) (.t 39) (.c (.g (.bool false)))⟩,
      ⟨(some 41), none, .pick (.t 34) (.c (.g (.bool true))) (.t 40)⟩]) <|
   .cond [1, 7, 8, 9, 21, 22, 23] (.t 41)
    (.seq (.reg [4, 5, 6] [⟨(some 4), none, .mov (.c (.g (.int .u64 0)))⟩,
        ⟨(some 5), none, .mov (.c (.g (.int .i64 0)))⟩,
        ⟨(some 6), none, .mov (.c (.g (.int .i64 3)))⟩]) <|
     .ret)
    (.skip)) <|
  .seq (.reg [1, 7, 8, 9, 21, 22, 23] [⟨(some 42), none, .mov (.t 7)⟩,
     ⟨(some 43), none, .mov (.t 9)⟩,
     ⟨(some 44), none, .bin .andNot (.t 43) (.c (.g (.int .u8 128)))⟩,
     ⟨(some 45), none, .conv .u64 (.t 44)⟩,
     ⟨(some 46), none, .mov (.t 8)⟩,
     ⟨(some 47), none, .bin .mul (.c (.g (.int .i64 7))) (.t 46)⟩,
     ⟨(some 48), none, .bin .shl (.t 45) (.t 47)⟩,
     ⟨(some 49), none, .bin .or (.t 42) (.t 48)⟩,
     ⟨(some 7), none, .mov (.t 49)⟩]) <|
  .seq (.reg [1, 7, 8, 21, 22, 23, 51] [⟨(some 50), none, .mov (.t 9)⟩,
     ⟨(some 51), none, .bin .lss (.t 50) (.c (.g (.int .u8 128)))⟩]) <|
  .cond [1, 7, 21, 22, 23] (.t 51)
   (.seq (.reg [4, 5, 6] [⟨(some 52), none, .mov (.t 7)⟩,
       ⟨(some 53), none, .mov (.t 1)⟩,
       ⟨(some 54), none, .mov (.t 8)⟩,
       ⟨(some 55), none, .bin .add (.t 53) (.t 54)⟩,
       ⟨(some 56), none, .bin .add (.t 55) (.c (.g (.int .i64 1)))⟩,
       ⟨(some 4), none, .mov (.t 52)⟩,
       ⟨(some 5), none, .mov (.t 56)⟩,
       ⟨(some 6), none, .mov (.c (.g (.int .i64 0)))⟩]) <|
    .ret)
   (.skip)) <|
 .reg [1, 7, 21, 22, 23] [⟨(some 57), none, .bin .add (.t 23) (.c (.g (.int .i64 1)))⟩,
   ⟨(some 23), none, .mov (.t 57)⟩]
def F75 : IFunc := ⟨2, 58, [.tmp 4, .tmp 5, .tmp 6], false,
 .seq (.reg [0, 1] [⟨(some 4), none, .mov (.c (.g (.int .u64 0)))⟩,
    ⟨(some 5), none, .mov (.c (.g (.int .i64 0)))⟩,
    ⟨(some 6), none, .mov (.c (.g (.int .i64 0)))⟩]) <|
 .seq (.seq (.reg [0, 1, 17] [⟨(some 10), none, .mov (.t 1)⟩,
     ⟨(some 11), none, .bin .lss (.t 10) (.c (.g (.int .i64 0)))⟩,
     ⟨(some 12), none, .mov (.t 11)⟩,
     ⟨(some 13), (some (12, false)), .mov (.t 1)⟩,
     ⟨(some 14), (some (12, false)), .mov (.t 0)⟩,
     ⟨(some 15), (some (12, false)), .lenS (.t 14)⟩,
     ⟨(some 16), (some (12, false)), .bin .gtr (.t 13) (.t 15)⟩,
     ⟨(some 17), none, .pick (.t 12) (.c (.g (.bool true))) (.t 16)⟩]) <|
  .cond [0, 1] (.t 17)
   (.seq (.reg [4, 5, 6] [⟨(some 4), none, .mov (.c (.g (.int .u64 0)))⟩,
       ⟨(some 5), none, .mov (.c (.g (.int .i64 0)))⟩,
       ⟨(some 6), none, .mov (.c (.g (.int .i64 1)))⟩]) <|
    .ret)
   (.skip)) <|
 .seq (.reg [0, 1, 7] [⟨(some 7), none, .mov (.c (.g (.int .u64 0)))⟩]) <|
 .seq (.seq (.reg [1, 7, 21, 22, 23] [⟨(some 18), none, .mov (.t 0)⟩,
     ⟨(some 19), none, .mov (.t 1)⟩,
     ⟨(some 20), none, .slcS (.t 18) (some (.t 19)) none⟩,
     ⟨(some 21), none, .convSB (.t 20)⟩,
     ⟨(some 22), none, .len (.t 21)⟩,
     ⟨(some 23), none, .mov (.c (.g (.int .i64 0)))⟩]) <|
  .block [] 0 <|
  .loop [1, 7, 21, 22, 23] [] L75_0) <|
 .seq (.reg [4, 5, 6] [⟨(some 4), none, .mov (.c (.g (.int .u64 0)))⟩,
    ⟨(some 5), none, .mov (.c (.g (.int .i64 0)))⟩,
    ⟨(some 6), none, .mov (.c (.g (.int .i64 2)))⟩]) <|
 .ret⟩
def h75 : List (List Nat) := [[0, 1], [0, 1, 17], [0, 1], [4, 5, 6], [0, 1, 7], [1, 7, 21, 22, 23], [], [1, 7, 21, 22, 23], [1, 7, 21, 22, 23, 24], [1, 7, 21, 22, 23], [1, 7, 21, 22, 23], [1, 7, 8, 9, 21, 22, 23], [1, 7, 8, 9, 21, 22, 23, 41], [1, 7, 8, 9, 21, 22, 23], [4, 5, 6], [1, 7, 8, 9, 21, 22, 23], [1, 7, 8, 21, 22, 23, 51], [1, 7, 21, 22, 23], [4, 5, 6], [1, 7, 21, 22, 23], [4, 5, 6]]
theorem c75 : cFunc Try.prog 75 false h75 = some F75 := by kernel_rfl

/-- baton/batonref01.Read -/
def L76_0 : IC :=
 .seq (.block [0, 1, 7, 8, 9] 1 <|
  .seq (.seq (.reg [0, 1, 7, 8, 9, 26] [⟨(some 21), none, .mov (.t 1)⟩,
      ⟨(some 22), none, .mov (.t 9)⟩,
      ⟨(some 23), none, .bin .add (.t 21) (.t 22)⟩,
      ⟨(some 24), none, .mov (.t 0)⟩,
      ⟨(some 25), none, .lenS (.t 24)⟩,
      ⟨(some 26), none, .bin .geq (.t 23) (.t 25)⟩]) <|
   .cond [0, 1, 7, 8, 9] (.t 26)
    (.seq (.reg [4, 5, 6] [⟨(some 4), none, .mov (.c (.g (.int .u64 0)))⟩,
        ⟨(some 5), none, .mov (.c (.g (.int .i64 0)))⟩,
        ⟨(some 6), none, .mov (.c (.g (.int .i64 2)))⟩]) <|
     .ret)
    (.skip)) <|
  .seq (.reg [0, 1, 7, 8, 9, 10] [⟨(some 27), none, .mov (.t 0)⟩,
     ⟨(some 28), none, .mov (.t 1)⟩,
     ⟨(some 29), none, .mov (.t 9)⟩,
     ⟨(some 30), none, .bin .add (.t 28) (.t 29)⟩,
     ⟨(some 31), none, .index (.t 27) (.t 30)⟩,
     ⟨(some 10), none, .mov (.t 31)⟩]) <|
  .seq (.seq (.reg [0, 1, 7, 8, 9, 10, 45] [⟨(some 32), none, .mov (.t 9)⟩,
      ⟨(some 33), none, .bin .eql (.t 32) (.c (.g (.int .i64 9)))⟩,
      ⟨(some 34), none, .mov (.t 33)⟩,
      ⟨(some 35), (some (34, true)), .mov (.t 10)⟩,
      ⟨(some 36), (some (34, true)), .bin .gtr (.t 35) (.c (.g (.int .u8 1)))⟩,
      ⟨(some 37), none, .pick (.t 34) (.t 36) (.c (.g (.bool false)))⟩,
      ⟨(some 38), none, .mov (.t 37)⟩,
      ⟨(some 39), (some (38, false)), .mov (.t 9)⟩,
      ⟨(some 40), (some (38, false)), .bin .gtr (.t 39) (.c (.g (.int .i64 0)))⟩,
      ⟨(some 41), (some (38, false)), .mov (.t 40)⟩,
      ⟨(some 42), (some (41, true)), .mov (.t 10)⟩,
      ⟨(some 43), (some (41, true)), .bin .eql (.t 42) (.c (.g (.int .u8 0)))⟩,
      ⟨(some 44), (some (38, false)), .pick (.t 41) (.t 43) (.c (.g (.bool false)))⟩,
      ⟨(some 45), none, .pick (.t 38) (.c (.g (.bool true))) (.t 44)⟩]) <|
   .cond [0, 1, 7, 8, 9, 10] (.t 45)
    (.seq (.reg [4, 5, 6] [⟨(some 4), none, .mov (.c (.g (.int .u64 0)))⟩,
        ⟨(some 5), none, .mov (.c (.g (.int .i64 0)))⟩,
        ⟨(some 6), none, .mov (.c (.g (.int .i64 3)))⟩]) <|
     .ret)
    (.skip)) <|
  .seq (.reg [0, 1, 7, 8, 9, 10] [⟨(some 46), none, .mov (.t 7)⟩,
     ⟨(some 47), none, .mov (.t 8)⟩,
     ⟨(some 48), none, .mov (.t 10)⟩,
     ⟨(some 49), none, .bin .rem (.t 48) (.c (.g (.int .u8 128)))⟩,
     ⟨(some 50), none, .conv .u64 (.t 49)⟩,
     ⟨(some 51), none, .bin .mul (.t 47) (.t 50)⟩,
     ⟨(some 52), none, .bin .add (.t 46) (.t 51)⟩,
     ⟨(some 7), none, .mov (.t 52)⟩]) <|
  .seq (.seq (.reg [0, 1, 7, 8, 9, 54] [⟨(some 53), none, .mov (.t 10)⟩,
      ⟨(some 54), none, .bin .lss (.t 53) (.c (.g (.int .u8 128)))⟩]) <|
   .cond [0, 1, 7, 8, 9] (.t 54)
    (.seq (.reg [4, 5, 6] [⟨(some 55), none, .mov (.t 7)⟩,
        ⟨(some 56), none, .mov (.t 1)⟩,
        ⟨(some 57), none, .mov (.t 9)⟩,
        ⟨(some 58), none, .bin .add (.t 56) (.t 57)⟩,
        ⟨(some 59), none, .bin .add (.t 58) (.c (.g (.int .i64 1)))⟩,
        ⟨(some 4), none, .mov (.t 55)⟩,
        ⟨(some 5), none, .mov (.t 59)⟩,
        ⟨(some 6), none, .mov (.c (.g (.int .i64 0)))⟩]) <|
     .ret)
    (.skip)) <|
  .reg [0, 1, 7, 8, 9] [⟨(some 60), none, .mov (.t 8)⟩,
    ⟨(some 61), none, .bin .mul (.t 60) (.c (.g (.int .u64 128)))⟩,
    ⟨(some 8), none, .mov (.t 61)⟩]) <|
 .reg [0, 1, 7, 8, 9] [⟨(some 19), none, .mov (.t 9)⟩,
   ⟨(some 20), none, .bin .add (.t 19) (.c (.g (.int .i64 1)))⟩,
   ⟨(some 9), none, .mov (.t 20)⟩]
def F76 : IFunc := ⟨2, 62, [.tmp 4, .tmp 5, .tmp 6], false,
 .seq (.reg [0, 1] [⟨(some 4), none, .mov (.c (.g (.int .u64 0)))⟩,
    ⟨(some 5), none, .mov (.c (.g (.int .i64 0)))⟩,
    ⟨(some 6), none, .mov (.c (.g (.int .i64 0)))⟩]) <|
 .seq (.seq (.reg [0, 1, 18] [⟨(some 11), none, .mov (.t 1)⟩,
     ⟨(some 12), none, .bin .lss (.t 11) (.c (.g (.int .i64 0)))⟩,
     ⟨(some 13), none, .mov (.t 12)⟩,
     ⟨(some 14), (some (13, false)), .mov (.t 1)⟩,
     ⟨(some 15), (some (13, false)), .mov (.t 0)⟩,
     ⟨(some 16), (some (13, false)), .lenS (.t 15)⟩,
     ⟨(some 17), (some (13, false)), .bin .gtr (.t 14) (.t 16)⟩,
     ⟨(some 18), none, .pick (.t 13) (.c (.g (.bool true))) (.t 17)⟩]) <|
  .cond [0, 1] (.t 18)
   (.seq (.reg [4, 5, 6] [⟨(some 4), none, .mov (.c (.g (.int .u64 0)))⟩,
       ⟨(some 5), none, .mov (.c (.g (.int .i64 0)))⟩,
       ⟨(some 6), none, .mov (.c (.g (.int .i64 1)))⟩]) <|
    .ret)
   (.skip)) <|
 .seq (.reg [0, 1, 7] [⟨(some 7), none, .mov (.c (.g (.int .u64 0)))⟩]) <|
 .seq (.reg [0, 1, 7, 8] [⟨(some 8), none, .mov (.c (.g (.int .u64 1)))⟩]) <|
 .seq (.reg [0, 1, 7, 8, 9] [⟨(some 9), none, .mov (.c (.g (.int .i64 0)))⟩]) <|
 .block [4, 5, 6] 0 <|
 .loop [0, 1, 7, 8, 9] [] L76_0⟩
def h76 : List (List Nat) := [[0, 1], [0, 1, 18], [0, 1], [4, 5, 6], [0, 1, 7], [0, 1, 7, 8], [0, 1, 7, 8, 9], [4, 5, 6], [0, 1, 7, 8, 9], [0, 1, 7, 8, 9], [0, 1, 7, 8, 9, 26], [0, 1, 7, 8, 9], [4, 5, 6], [0, 1, 7, 8, 9, 10], [0, 1, 7, 8, 9, 10, 45], [0, 1, 7, 8, 9, 10], [4, 5, 6], [0, 1, 7, 8, 9, 10], [0, 1, 7, 8, 9, 54], [0, 1, 7, 8, 9], [4, 5, 6], [0, 1, 7, 8, 9], [0, 1, 7, 8, 9]]
theorem c76 : cFunc Try.prog 76 false h76 = some F76 := by kernel_rfl

/-- slices.ContainsFunc[[]int,int] -/
def F77 : IFunc := ⟨2, 9, [.tmp 4], false,
 .seq (.reg [0, 1] [⟨(some 4), none, .mov (.c (.g (.bool false)))⟩]) <|
 .seq (.reg [4] [⟨(some 5), none, .mov (.t 0)⟩,
    ⟨(some 6), none, .mov (.t 1)⟩,
    ⟨(some 7), none, .call (.c (.g (.fn 88))) [(.t 5), (.t 6)]⟩,
    ⟨(some 8), none, .bin .geq (.t 7) (.c (.g (.int .i64 0)))⟩,
    ⟨(some 4), none, .mov (.t 8)⟩]) <|
 .ret⟩
def h77 : List (List Nat) := [[0, 1], [4]]
theorem c77 : cFunc Try.prog 77 false h77 = some F77 := by kernel_rfl

/-- baton/wire.number$1 -/
def F78 : IFunc := ⟨1, 9, [.tmp 2], false,
 .seq (.reg [0] [⟨(some 2), none, .mov (.c (.g (.bool false)))⟩]) <|
 .seq (.reg [2] [⟨(some 3), none, .mov (.t 0)⟩,
    ⟨(some 4), none, .bin .lss (.t 3) (.c (.g (.int .i64 0)))⟩,
    ⟨(some 5), none, .mov (.t 4)⟩,
    ⟨(some 6), (some (5, false)), .mov (.t 0)⟩,
    ⟨(some 7), (some (5, false)), .bin .gtr (.t 6) (.c (.g (.int .i64 1099511627775)))⟩,
    ⟨(some 8), none, .pick (.t 5) (.c (.g (.bool true))) (.t 7)⟩,
    ⟨(some 2), none, .mov (.t 8)⟩]) <|
 .ret⟩
def h78 : List (List Nat) := [[0], [2]]
theorem c78 : cFunc Try.prog 78 false h78 = some F78 := by kernel_rfl

/-- slices.ContainsFunc[[]baton/api.Cmp,baton/api.Cmp] -/
def F79 : IFunc := ⟨2, 9, [.tmp 4], false,
 .seq (.reg [0, 1] [⟨(some 4), none, .mov (.c (.g (.bool false)))⟩]) <|
 .seq (.reg [4] [⟨(some 5), none, .mov (.t 0)⟩,
    ⟨(some 6), none, .mov (.t 1)⟩,
    ⟨(some 7), none, .call (.c (.g (.fn 89))) [(.t 5), (.t 6)]⟩,
    ⟨(some 8), none, .bin .geq (.t 7) (.c (.g (.int .i64 0)))⟩,
    ⟨(some 4), none, .mov (.t 8)⟩]) <|
 .ret⟩
def h79 : List (List Nat) := [[0, 1], [4]]
theorem c79 : cFunc Try.prog 79 false h79 = some F79 := by kernel_rfl

/-- baton/wire.all[baton/api.Cmp]$1 -/
def F80 : IFunc := ⟨2, 8, [.tmp 3], false,
 .seq (.reg [1, 2] [⟨(some 2), none, .box (.t 0)⟩,
    ⟨(some 3), none, .mov (.c (.g (.bool false)))⟩]) <|
 .seq (.reg [3] [⟨(some 4), none, .load false 1 (.t 1)⟩,
    ⟨(some 5), none, .load true 5 (.t 2)⟩,
    ⟨(some 6), none, .call (.t 4) [(.t 5)]⟩,
    ⟨(some 7), none, .un .not (.t 6)⟩,
    ⟨(some 3), none, .mov (.t 7)⟩]) <|
 .ret⟩
def h80 : List (List Nat) := [[1, 2], [3]]
theorem c80 : cFunc Try.prog 80 false h80 = some F80 := by kernel_rfl

/-- slices.ContainsFunc[[]baton/api.Mut,baton/api.Mut] -/
def F81 : IFunc := ⟨2, 9, [.tmp 4], false,
 .seq (.reg [0, 1] [⟨(some 4), none, .mov (.c (.g (.bool false)))⟩]) <|
 .seq (.reg [4] [⟨(some 5), none, .mov (.t 0)⟩,
    ⟨(some 6), none, .mov (.t 1)⟩,
    ⟨(some 7), none, .call (.c (.g (.fn 90))) [(.t 5), (.t 6)]⟩,
    ⟨(some 8), none, .bin .geq (.t 7) (.c (.g (.int .i64 0)))⟩,
    ⟨(some 4), none, .mov (.t 8)⟩]) <|
 .ret⟩
def h81 : List (List Nat) := [[0, 1], [4]]
theorem c81 : cFunc Try.prog 81 false h81 = some F81 := by kernel_rfl

/-- baton/wire.all[baton/api.Mut]$1 -/
def F82 : IFunc := ⟨2, 8, [.tmp 3], false,
 .seq (.reg [1, 2] [⟨(some 2), none, .box (.t 0)⟩,
    ⟨(some 3), none, .mov (.c (.g (.bool false)))⟩]) <|
 .seq (.reg [3] [⟨(some 4), none, .load false 1 (.t 1)⟩,
    ⟨(some 5), none, .load true 4 (.t 2)⟩,
    ⟨(some 6), none, .call (.t 4) [(.t 5)]⟩,
    ⟨(some 7), none, .un .not (.t 6)⟩,
    ⟨(some 3), none, .mov (.t 7)⟩]) <|
 .ret⟩
def h82 : List (List Nat) := [[1, 2], [3]]
theorem c82 : cFunc Try.prog 82 false h82 = some F82 := by kernel_rfl

/-- slices.ContainsFunc[[]baton/api.KV,baton/api.KV] -/
def F83 : IFunc := ⟨2, 9, [.tmp 4], false,
 .seq (.reg [0, 1] [⟨(some 4), none, .mov (.c (.g (.bool false)))⟩]) <|
 .seq (.reg [4] [⟨(some 5), none, .mov (.t 0)⟩,
    ⟨(some 6), none, .mov (.t 1)⟩,
    ⟨(some 7), none, .call (.c (.g (.fn 91))) [(.t 5), (.t 6)]⟩,
    ⟨(some 8), none, .bin .geq (.t 7) (.c (.g (.int .i64 0)))⟩,
    ⟨(some 4), none, .mov (.t 8)⟩]) <|
 .ret⟩
def h83 : List (List Nat) := [[0, 1], [4]]
theorem c83 : cFunc Try.prog 83 false h83 = some F83 := by kernel_rfl

/-- baton/wire.all[baton/api.KV]$1 -/
def F84 : IFunc := ⟨2, 8, [.tmp 3], false,
 .seq (.reg [1, 2] [⟨(some 2), none, .box (.t 0)⟩,
    ⟨(some 3), none, .mov (.c (.g (.bool false)))⟩]) <|
 .seq (.reg [3] [⟨(some 4), none, .load false 1 (.t 1)⟩,
    ⟨(some 5), none, .load true 6 (.t 2)⟩,
    ⟨(some 6), none, .call (.t 4) [(.t 5)]⟩,
    ⟨(some 7), none, .un .not (.t 6)⟩,
    ⟨(some 3), none, .mov (.t 7)⟩]) <|
 .ret⟩
def h84 : List (List Nat) := [[1, 2], [3]]
theorem c84 : cFunc Try.prog 84 false h84 = some F84 := by kernel_rfl

/-- slices.ContainsFunc[[]baton/api.Event,baton/api.Event] -/
def F85 : IFunc := ⟨2, 9, [.tmp 4], false,
 .seq (.reg [0, 1] [⟨(some 4), none, .mov (.c (.g (.bool false)))⟩]) <|
 .seq (.reg [4] [⟨(some 5), none, .mov (.t 0)⟩,
    ⟨(some 6), none, .mov (.t 1)⟩,
    ⟨(some 7), none, .call (.c (.g (.fn 92))) [(.t 5), (.t 6)]⟩,
    ⟨(some 8), none, .bin .geq (.t 7) (.c (.g (.int .i64 0)))⟩,
    ⟨(some 4), none, .mov (.t 8)⟩]) <|
 .ret⟩
def h85 : List (List Nat) := [[0, 1], [4]]
theorem c85 : cFunc Try.prog 85 false h85 = some F85 := by kernel_rfl

/-- baton/wire.all[baton/api.Event]$1 -/
def F86 : IFunc := ⟨2, 8, [.tmp 3], false,
 .seq (.reg [1, 2] [⟨(some 2), none, .box (.t 0)⟩,
    ⟨(some 3), none, .mov (.c (.g (.bool false)))⟩]) <|
 .seq (.reg [3] [⟨(some 4), none, .load false 1 (.t 1)⟩,
    ⟨(some 5), none, .load true 8 (.t 2)⟩,
    ⟨(some 6), none, .call (.t 4) [(.t 5)]⟩,
    ⟨(some 7), none, .un .not (.t 6)⟩,
    ⟨(some 3), none, .mov (.t 7)⟩]) <|
 .ret⟩
def h86 : List (List Nat) := [[1, 2], [3]]
theorem c86 : cFunc Try.prog 86 false h86 = some F86 := by kernel_rfl

/-- (*strings.Builder).copyCheck -/
def F87 : IFunc := ⟨1, 20, [], false,
 .seq (.reg [0, 6] [⟨(some 2), none, .mov (.t 0)⟩,
    ⟨(some 3), none, .nilchk (.t 2)⟩,
    ⟨(some 4), none, .faddr 0 (.t 3)⟩,
    ⟨(some 5), none, .load false 1 (.t 4)⟩,
    ⟨(some 6), none, .isnil false 0 (.t 5)⟩]) <|
 .cond [] (.t 6)
  (.reg [] [⟨(some 7), none, .mov (.t 0)⟩,
     ⟨(some 8), none, .mov (.t 0)⟩,
     ⟨(some 9), none, .toU (.t 8)⟩,
     ⟨(some 10), none, .call (.c (.g (.fn 93))) [(.t 9)]⟩,
     ⟨(some 11), none, .fromU [(58, 2), (59, 2), (60, 2)] (.t 10)⟩,
     ⟨(some 12), none, .nilchk (.t 7)⟩,
     ⟨(some 13), none, .faddr 0 (.t 12)⟩,
     ⟨none, none, .store 1 (.t 13) (.t 11)⟩])
  (.seq (.reg [19] [⟨(some 14), none, .mov (.t 0)⟩,
      ⟨(some 15), none, .nilchk (.t 14)⟩,
      ⟨(some 16), none, .faddr 0 (.t 15)⟩,
      ⟨(some 17), none, .load false 1 (.t 16)⟩,
      ⟨(some 18), none, .mov (.t 0)⟩,
      ⟨(some 19), none, .neqp (.t 17) (.t 18)⟩]) <|
   .cond [] (.t 19)
    (.reg [] [⟨none, none, .row 0 []⟩])
    (.skip))⟩
def h87 : List (List Nat) := [[0, 6], [], [], [19], []]
theorem c87 : cFunc Try.prog 87 false h87 = some F87 := by kernel_rfl

/-- slices.IndexFunc[[]int,int] -/
def L88_0 : IC :=
 .seq (.reg [0, 1, 7, 8, 9] [⟨(some 9), none, .bin .lss (.t 8) (.t 7)⟩]) <|
 .seq (.cond [0, 1, 7, 8] (.t 9)
   (.skip)
   (.exit 0)) <|
 .seq (.block [0, 1, 7, 8] 1 <|
  .seq (.reg [0, 1, 5, 7, 8] [⟨(some 10), none, .mov (.t 8)⟩,
     ⟨(some 5), none, .mov (.t 10)⟩]) <|
  .seq (.reg [0, 1, 5, 7, 8, 16] [⟨(some 11), none, .mov (.t 1)⟩,
     ⟨(some 12), none, .mov (.t 0)⟩,
     ⟨(some 13), none, .mov (.t 5)⟩,
     ⟨(some 14), none, .iaddr 1 (.t 12) (.t 13)⟩,
     ⟨(some 15), none, .load false 1 (.t 14)⟩,
     ⟨(some 16), none, .call (.t 11) [(.t 15)]⟩]) <|
  .cond [0, 1, 7, 8] (.t 16)
   (.seq (.reg [4] [⟨(some 17), none, .mov (.t 5)⟩,
       ⟨(some 4), none, .mov (.t 17)⟩]) <|
    .ret)
   (.skip)) <|
 .reg [0, 1, 7, 8] [⟨(some 18), none, .bin .add (.t 8) (.c (.g (.int .i64 1)))⟩,
   ⟨(some 8), none, .mov (.t 18)⟩]
def F88 : IFunc := ⟨2, 19, [.tmp 4], false,
 .seq (.reg [0, 1] [⟨(some 4), none, .mov (.c (.g (.int .i64 0)))⟩]) <|
 .seq (.seq (.reg [0, 1, 7, 8] [⟨(some 6), none, .mov (.t 0)⟩,
     ⟨(some 7), none, .len (.t 6)⟩,
     ⟨(some 8), none, .mov (.c (.g (.int .i64 0)))⟩]) <|
  .block [] 0 <|
  .loop [0, 1, 7, 8] [] L88_0) <|
 .seq (.reg [4] [⟨(some 4), none, .mov (.c (.g (.int .i64 (-1))))⟩]) <|
 .ret⟩
def h88 : List (List Nat) := [[0, 1], [0, 1, 7, 8], [], [0, 1, 7, 8], [0, 1, 7, 8, 9], [0, 1, 7, 8], [0, 1, 7, 8], [0, 1, 5, 7, 8], [0, 1, 5, 7, 8, 16], [0, 1, 7, 8], [4], [0, 1, 7, 8], [4]]
theorem c88 : cFunc Try.prog 88 false h88 = some F88 := by kernel_rfl

/-- slices.IndexFunc[[]baton/api.Cmp,baton/api.Cmp] -/
def L89_0 : IC :=
 .seq (.reg [0, 1, 7, 8, 9] [⟨(some 9), none, .bin .lss (.t 8) (.t 7)⟩]) <|
 .seq (.cond [0, 1, 7, 8] (.t 9)
   (.skip)
   (.exit 0)) <|
 .seq (.block [0, 1, 7, 8] 1 <|
  .seq (.reg [0, 1, 5, 7, 8] [⟨(some 10), none, .mov (.t 8)⟩,
     ⟨(some 5), none, .mov (.t 10)⟩]) <|
  .seq (.reg [0, 1, 5, 7, 8, 16] [⟨(some 11), none, .mov (.t 1)⟩,
     ⟨(some 12), none, .mov (.t 0)⟩,
     ⟨(some 13), none, .mov (.t 5)⟩,
     ⟨(some 14), none, .iaddr 5 (.t 12) (.t 13)⟩,
     ⟨(some 15), none, .load true 5 (.t 14)⟩,
     ⟨(some 16), none, .call (.t 11) [(.t 15)]⟩]) <|
  .cond [0, 1, 7, 8] (.t 16)
   (.seq (.reg [4] [⟨(some 17), none, .mov (.t 5)⟩,
       ⟨(some 4), none, .mov (.t 17)⟩]) <|
    .ret)
   (.skip)) <|
 .reg [0, 1, 7, 8] [⟨(some 18), none, .bin .add (.t 8) (.c (.g (.int .i64 1)))⟩,
   ⟨(some 8), none, .mov (.t 18)⟩]
def F89 : IFunc := ⟨2, 19, [.tmp 4], false,
 .seq (.reg [0, 1] [⟨(some 4), none, .mov (.c (.g (.int .i64 0)))⟩]) <|
 .seq (.seq (.reg [0, 1, 7, 8] [⟨(some 6), none, .mov (.t 0)⟩,
     ⟨(some 7), none, .len (.t 6)⟩,
     ⟨(some 8), none, .mov (.c (.g (.int .i64 0)))⟩]) <|
  .block [] 0 <|
  .loop [0, 1, 7, 8] [] L89_0) <|
 .seq (.reg [4] [⟨(some 4), none, .mov (.c (.g (.int .i64 (-1))))⟩]) <|
 .ret⟩
def h89 : List (List Nat) := [[0, 1], [0, 1, 7, 8], [], [0, 1, 7, 8], [0, 1, 7, 8, 9], [0, 1, 7, 8], [0, 1, 7, 8], [0, 1, 5, 7, 8], [0, 1, 5, 7, 8, 16], [0, 1, 7, 8], [4], [0, 1, 7, 8], [4]]
theorem c89 : cFunc Try.prog 89 false h89 = some F89 := by kernel_rfl

/-- slices.IndexFunc[[]baton/api.Mut,baton/api.Mut] -/
def L90_0 : IC :=
 .seq (.reg [0, 1, 7, 8, 9] [⟨(some 9), none, .bin .lss (.t 8) (.t 7)⟩]) <|
 .seq (.cond [0, 1, 7, 8] (.t 9)
   (.skip)
   (.exit 0)) <|
 .seq (.block [0, 1, 7, 8] 1 <|
  .seq (.reg [0, 1, 5, 7, 8] [⟨(some 10), none, .mov (.t 8)⟩,
     ⟨(some 5), none, .mov (.t 10)⟩]) <|
  .seq (.reg [0, 1, 5, 7, 8, 16] [⟨(some 11), none, .mov (.t 1)⟩,
     ⟨(some 12), none, .mov (.t 0)⟩,
     ⟨(some 13), none, .mov (.t 5)⟩,
     ⟨(some 14), none, .iaddr 4 (.t 12) (.t 13)⟩,
     ⟨(some 15), none, .load true 4 (.t 14)⟩,
     ⟨(some 16), none, .call (.t 11) [(.t 15)]⟩]) <|
  .cond [0, 1, 7, 8] (.t 16)
   (.seq (.reg [4] [⟨(some 17), none, .mov (.t 5)⟩,
       ⟨(some 4), none, .mov (.t 17)⟩]) <|
    .ret)
   (.skip)) <|
 .reg [0, 1, 7, 8] [⟨(some 18), none, .bin .add (.t 8) (.c (.g (.int .i64 1)))⟩,
   ⟨(some 8), none, .mov (.t 18)⟩]
def F90 : IFunc := ⟨2, 19, [.tmp 4], false,
 .seq (.reg [0, 1] [⟨(some 4), none, .mov (.c (.g (.int .i64 0)))⟩]) <|
 .seq (.seq (.reg [0, 1, 7, 8] [⟨(some 6), none, .mov (.t 0)⟩,
     ⟨(some 7), none, .len (.t 6)⟩,
     ⟨(some 8), none, .mov (.c (.g (.int .i64 0)))⟩]) <|
  .block [] 0 <|
  .loop [0, 1, 7, 8] [] L90_0) <|
 .seq (.reg [4] [⟨(some 4), none, .mov (.c (.g (.int .i64 (-1))))⟩]) <|
 .ret⟩
def h90 : List (List Nat) := [[0, 1], [0, 1, 7, 8], [], [0, 1, 7, 8], [0, 1, 7, 8, 9], [0, 1, 7, 8], [0, 1, 7, 8], [0, 1, 5, 7, 8], [0, 1, 5, 7, 8, 16], [0, 1, 7, 8], [4], [0, 1, 7, 8], [4]]
theorem c90 : cFunc Try.prog 90 false h90 = some F90 := by kernel_rfl

/-- slices.IndexFunc[[]baton/api.KV,baton/api.KV] -/
def L91_0 : IC :=
 .seq (.reg [0, 1, 7, 8, 9] [⟨(some 9), none, .bin .lss (.t 8) (.t 7)⟩]) <|
 .seq (.cond [0, 1, 7, 8] (.t 9)
   (.skip)
   (.exit 0)) <|
 .seq (.block [0, 1, 7, 8] 1 <|
  .seq (.reg [0, 1, 5, 7, 8] [⟨(some 10), none, .mov (.t 8)⟩,
     ⟨(some 5), none, .mov (.t 10)⟩]) <|
  .seq (.reg [0, 1, 5, 7, 8, 16] [⟨(some 11), none, .mov (.t 1)⟩,
     ⟨(some 12), none, .mov (.t 0)⟩,
     ⟨(some 13), none, .mov (.t 5)⟩,
     ⟨(some 14), none, .iaddr 6 (.t 12) (.t 13)⟩,
     ⟨(some 15), none, .load true 6 (.t 14)⟩,
     ⟨(some 16), none, .call (.t 11) [(.t 15)]⟩]) <|
  .cond [0, 1, 7, 8] (.t 16)
   (.seq (.reg [4] [⟨(some 17), none, .mov (.t 5)⟩,
       ⟨(some 4), none, .mov (.t 17)⟩]) <|
    .ret)
   (.skip)) <|
 .reg [0, 1, 7, 8] [⟨(some 18), none, .bin .add (.t 8) (.c (.g (.int .i64 1)))⟩,
   ⟨(some 8), none, .mov (.t 18)⟩]
def F91 : IFunc := ⟨2, 19, [.tmp 4], false,
 .seq (.reg [0, 1] [⟨(some 4), none, .mov (.c (.g (.int .i64 0)))⟩]) <|
 .seq (.seq (.reg [0, 1, 7, 8] [⟨(some 6), none, .mov (.t 0)⟩,
     ⟨(some 7), none, .len (.t 6)⟩,
     ⟨(some 8), none, .mov (.c (.g (.int .i64 0)))⟩]) <|
  .block [] 0 <|
  .loop [0, 1, 7, 8] [] L91_0) <|
 .seq (.reg [4] [⟨(some 4), none, .mov (.c (.g (.int .i64 (-1))))⟩]) <|
 .ret⟩
def h91 : List (List Nat) := [[0, 1], [0, 1, 7, 8], [], [0, 1, 7, 8], [0, 1, 7, 8, 9], [0, 1, 7, 8], [0, 1, 7, 8], [0, 1, 5, 7, 8], [0, 1, 5, 7, 8, 16], [0, 1, 7, 8], [4], [0, 1, 7, 8], [4]]
theorem c91 : cFunc Try.prog 91 false h91 = some F91 := by kernel_rfl

/-- slices.IndexFunc[[]baton/api.Event,baton/api.Event] -/
def L92_0 : IC :=
 .seq (.reg [0, 1, 7, 8, 9] [⟨(some 9), none, .bin .lss (.t 8) (.t 7)⟩]) <|
 .seq (.cond [0, 1, 7, 8] (.t 9)
   (.skip)
   (.exit 0)) <|
 .seq (.block [0, 1, 7, 8] 1 <|
  .seq (.reg [0, 1, 5, 7, 8] [⟨(some 10), none, .mov (.t 8)⟩,
     ⟨(some 5), none, .mov (.t 10)⟩]) <|
  .seq (.reg [0, 1, 5, 7, 8, 16] [⟨(some 11), none, .mov (.t 1)⟩,
     ⟨(some 12), none, .mov (.t 0)⟩,
     ⟨(some 13), none, .mov (.t 5)⟩,
     ⟨(some 14), none, .iaddr 8 (.t 12) (.t 13)⟩,
     ⟨(some 15), none, .load true 8 (.t 14)⟩,
     ⟨(some 16), none, .call (.t 11) [(.t 15)]⟩]) <|
  .cond [0, 1, 7, 8] (.t 16)
   (.seq (.reg [4] [⟨(some 17), none, .mov (.t 5)⟩,
       ⟨(some 4), none, .mov (.t 17)⟩]) <|
    .ret)
   (.skip)) <|
 .reg [0, 1, 7, 8] [⟨(some 18), none, .bin .add (.t 8) (.c (.g (.int .i64 1)))⟩,
   ⟨(some 8), none, .mov (.t 18)⟩]
def F92 : IFunc := ⟨2, 19, [.tmp 4], false,
 .seq (.reg [0, 1] [⟨(some 4), none, .mov (.c (.g (.int .i64 0)))⟩]) <|
 .seq (.seq (.reg [0, 1, 7, 8] [⟨(some 6), none, .mov (.t 0)⟩,
     ⟨(some 7), none, .len (.t 6)⟩,
     ⟨(some 8), none, .mov (.c (.g (.int .i64 0)))⟩]) <|
  .block [] 0 <|
  .loop [0, 1, 7, 8] [] L92_0) <|
 .seq (.reg [4] [⟨(some 4), none, .mov (.c (.g (.int .i64 (-1))))⟩]) <|
 .ret⟩
def h92 : List (List Nat) := [[0, 1], [0, 1, 7, 8], [], [0, 1, 7, 8], [0, 1, 7, 8, 9], [0, 1, 7, 8], [0, 1, 7, 8], [0, 1, 5, 7, 8], [0, 1, 5, 7, 8, 16], [0, 1, 7, 8], [4], [0, 1, 7, 8], [4]]
theorem c92 : cFunc Try.prog 92 false h92 = some F92 := by kernel_rfl

end Go.Proofs.Ytenndgooepdmiaa
