/- The compiled functions of the seat, part IRd3. No conditions. -/
import Derived.Test.YtnbclicefmpkiaaAMJ3
import Derived.Test.YtnbclicefmpkiaaProg
import Derived.KernelRfl
namespace Go.Proofs.Ytnbclicefmpkiaa
open Go Go.AM Go.Proofs
/-- cmp.Compare[string] -/
def F94 : IFunc := ⟨2, 20, [.tmp 4], false,
 .seq (.reg [0, 1] [⟨(some 4), none, .mov (.c (.g (.int .i64 0)))⟩]) <|
 .seq (.reg [0, 1, 5] [⟨(some 7), none, .mov (.t 0)⟩,
    ⟨(some 8), none, .call (.c (.g (.fn 100))) [(.t 7)]⟩,
    ⟨(some 5), none, .mov (.t 8)⟩]) <|
 .seq (.reg [0, 1, 5, 6] [⟨(some 9), none, .mov (.t 1)⟩,
    ⟨(some 10), none, .call (.c (.g (.fn 100))) [(.t 9)]⟩,
    ⟨(some 6), none, .mov (.t 10)⟩]) <|
 .seq (.seq (.reg [0, 1, 6, 11] [⟨(some 11), none, .mov (.t 5)⟩]) <|
  .cond [0, 1, 6] (.t 11)
   (.seq (.seq (.reg [12] [⟨(some 12), none, .mov (.t 6)⟩]) <|
     .cond [] (.t 12)
      (.seq (.reg [4] [⟨(some 4), none, .mov (.c (.g (.int .i64 0)))⟩]) <|
       .ret)
      (.skip)) <|
    .seq (.reg [4] [⟨(some 4), none, .mov (.c (.g (.int .i64 (-1))))⟩]) <|
    .ret)
   (.skip)) <|
 .seq (.seq (.reg [0, 1, 13] [⟨(some 13), none, .mov (.t 6)⟩]) <|
  .cond [0, 1] (.t 13)
   (.seq (.reg [4] [⟨(some 4), none, .mov (.c (.g (.int .i64 1)))⟩]) <|
    .ret)
   (.skip)) <|
 .seq (.seq (.reg [0, 1, 16] [⟨(some 14), none, .mov (.t 0)⟩,
     ⟨(some 15), none, .mov (.t 1)⟩,
     ⟨(some 16), none, .bin .lss (.t 14) (.t 15)⟩]) <|
  .cond [0, 1] (.t 16)
   (.seq (.reg [4] [⟨(some 4), none, .mov (.c (.g (.int .i64 (-1))))⟩]) <|
    .ret)
   (.skip)) <|
 .seq (.seq (.reg [19] [⟨(some 17), none, .mov (.t 0)⟩,
     ⟨(some 18), none, .mov (.t 1)⟩,
     ⟨(some 19), none, .bin .gtr (.t 17) (.t 18)⟩]) <|
  .cond [] (.t 19)
   (.seq (.reg [4] [⟨(some 4), none, .mov (.c (.g (.int .i64 1)))⟩]) <|
    .ret)
   (.skip)) <|
 .seq (.reg [4] [⟨(some 4), none, .mov (.c (.g (.int .i64 0)))⟩]) <|
 .ret⟩
def h94 : List (List Nat) := [[0, 1], [0, 1, 5], [0, 1, 5, 6], [0, 1, 6, 11], [0, 1, 6], [12], [], [4], [4], [0, 1, 13], [0, 1], [4], [0, 1, 16], [0, 1], [4], [19], [], [4], [4]]
theorem c94 : cFunc Try.prog 94 false h94 = some F94 := by kernel_rfl

/-- slices.Concat[[]baton/api.KV,baton/api.KV] -/
def L95_0 : IC :=
 .seq (.reg [0, 3, 9, 10, 11, 12] [⟨(some 12), none, .bin .lss (.t 11) (.t 10)⟩]) <|
 .seq (.cond [0, 3, 9, 10, 11] (.t 12)
   (.skip)
   (.exit 0)) <|
 .seq (.block [0, 3, 9, 10, 11] 1 <|
  .seq (.reg [0, 3, 5, 9, 10, 11] [⟨(some 13), none, .iaddr 1 (.t 9) (.t 11)⟩,
     ⟨(some 14), none, .load false 1 (.t 13)⟩,
     ⟨(some 5), none, .mov (.t 14)⟩]) <|
  .seq (.reg [0, 3, 9, 10, 11] [⟨(some 15), none, .mov (.t 3)⟩,
     ⟨(some 16), none, .mov (.t 5)⟩,
     ⟨(some 17), none, .len (.t 16)⟩,
     ⟨(some 18), none, .bin .add (.t 15) (.t 17)⟩,
     ⟨(some 3), none, .mov (.t 18)⟩]) <|
  .seq (.reg [0, 3, 9, 10, 11, 20] [⟨(some 19), none, .mov (.t 3)⟩,
     ⟨(some 20), none, .bin .lss (.t 19) (.c (.g (.int .i64 0)))⟩]) <|
  .cond [0, 3, 9, 10, 11] (.t 20)
   (.reg [0, 3, 9, 10, 11] [⟨(some 21), none, .mkif 9 (.c (.g (.str [108, 101, 110, 32, 111, 117, 116, 32, 111, 102, 32, 114, 97, 110, 103, 101])))⟩,
      ⟨none, none, .row 0 []⟩])
   (.skip)) <|
 .reg [0, 3, 9, 10, 11] [⟨(some 22), none, .bin .add (.t 11) (.c (.g (.int .i64 1)))⟩,
   ⟨(some 11), none, .mov (.t 22)⟩]
def L95_1 : IC :=
 .seq (.reg [6, 25, 26, 27, 28] [⟨(some 28), none, .bin .lss (.t 27) (.t 26)⟩]) <|
 .seq (.cond [6, 25, 26, 27] (.t 28)
   (.skip)
   (.exit 2)) <|
 .seq (.block [6, 25, 26, 27] 3 <|
  .seq (.reg [6, 8, 25, 26, 27] [⟨(some 29), none, .iaddr 1 (.t 25) (.t 27)⟩,
     ⟨(some 30), none, .load false 1 (.t 29)⟩,
     ⟨(some 8), none, .mov (.t 30)⟩]) <|
  .reg [6, 25, 26, 27] [⟨(some 31), none, .mov (.t 6)⟩,
    ⟨(some 32), none, .mov (.t 8)⟩,
    ⟨(some 33), none, .app 6 64 (.t 31) (.t 32)⟩,
    ⟨(some 6), none, .mov (.t 33)⟩]) <|
 .reg [6, 25, 26, 27] [⟨(some 34), none, .bin .add (.t 27) (.c (.g (.int .i64 1)))⟩,
   ⟨(some 27), none, .mov (.t 34)⟩]
def F95 : IFunc := ⟨1, 36, [.tmp 2], false,
 .seq (.reg [0] [⟨(some 2), none, .nres 6⟩]) <|
 .seq (.reg [0, 3] [⟨(some 3), none, .mov (.c (.g (.int .i64 0)))⟩]) <|
 .seq (.seq (.reg [0, 3, 9, 10, 11] [⟨(some 9), none, .mov (.t 0)⟩,
     ⟨(some 10), none, .len (.t 9)⟩,
     ⟨(some 11), none, .mov (.c (.g (.int .i64 0)))⟩]) <|
  .block [0, 3] 0 <|
  .loop [0, 3, 9, 10, 11] [] L95_0) <|
 .seq (.reg [0, 6] [⟨(some 23), none, .mov (.t 3)⟩,
    ⟨(some 24), none, .call (.c (.g (.fn 101))) [(.c (.g (.nsl))), (.t 23)]⟩,
    ⟨(some 6), none, .mov (.t 24)⟩]) <|
 .seq (.seq (.reg [6, 25, 26, 27] [⟨(some 25), none, .mov (.t 0)⟩,
     ⟨(some 26), none, .len (.t 25)⟩,
     ⟨(some 27), none, .mov (.c (.g (.int .i64 0)))⟩]) <|
  .block [6] 2 <|
  .loop [6, 25, 26, 27] [] L95_1) <|
 .seq (.reg [2] [⟨(some 35), none, .mov (.t 6)⟩,
    ⟨(some 2), none, .mov (.t 35)⟩]) <|
 .ret⟩
def h95 : List (List Nat) := [[0], [0, 3], [0, 3, 9, 10, 11], [0, 3], [0, 3, 9, 10, 11], [0, 3, 9, 10, 11, 12], [0, 3, 9, 10, 11], [0, 3, 9, 10, 11], [0, 3, 5, 9, 10, 11], [0, 3, 9, 10, 11], [0, 3, 9, 10, 11, 20], [0, 3, 9, 10, 11], [0, 3, 9, 10, 11], [0, 3, 9, 10, 11], [0, 6], [6, 25, 26, 27], [6], [6, 25, 26, 27], [6, 25, 26, 27, 28], [6, 25, 26, 27], [6, 25, 26, 27], [6, 8, 25, 26, 27], [6, 25, 26, 27], [6, 25, 26, 27], [2]]
theorem c95 : cFunc Try.prog 95 false h95 = some F95 := by kernel_rfl

/-- baton/hist.number -/
def F96 : IFunc := ⟨2, 12, [.tmp 4], false,
 .seq (.reg [0, 1] [⟨(some 4), none, .mov (.c (.g (.bool false)))⟩]) <|
 .seq (.reg [4] [⟨(some 5), none, .mov (.t 0)⟩,
    ⟨(some 6), none, .mov (.t 1)⟩,
    ⟨(some 7), none, .bin .geq (.t 5) (.t 6)⟩,
    ⟨(some 8), none, .mov (.t 7)⟩,
    ⟨(some 9), (some (8, true)), .mov (.t 0)⟩,
    ⟨(some 10), (some (8, true)), .bin .leq (.t 9) (.c (.g (.int .i64 1099511627775)))⟩,
    ⟨(some 11), none, .pick (.t 8) (.t 10) (.c (.g (.bool false)))⟩,
    ⟨(some 4), none, .mov (.t 11)⟩]) <|
 .ret⟩
def h96 : List (List Nat) := [[0, 1], [4]]
theorem c96 : cFunc Try.prog 96 false h96 = some F96 := by kernel_rfl

/-- baton/key.each -/
def L97_0 : IC :=
 .seq (.reg [2, 18, 19, 20, 21] [⟨(some 21), none, .bin .lss (.t 20) (.t 19)⟩]) <|
 .seq (.cond [2, 18, 19, 20] (.t 21)
   (.skip)
   (.exit 0)) <|
 .seq (.block [2, 18, 19, 20] 1 <|
  .seq (.reg [2, 8, 18, 19, 20] [⟨(some 22), none, .iaddr 1 (.t 18) (.t 20)⟩,
     ⟨(some 23), none, .load false 1 (.t 22)⟩,
     ⟨(some 8), none, .mov (.t 23)⟩]) <|
  .seq (.reg [2, 18, 19, 20, 27] [⟨(some 24), none, .mov (.t 2)⟩,
     ⟨(some 25), none, .mov (.t 8)⟩,
     ⟨(some 26), none, .call (.t 24) [(.t 25)]⟩,
     ⟨(some 27), none, .un .not (.t 26)⟩]) <|
  .cond [2, 18, 19, 20] (.t 27)
   (.seq (.reg [6] [⟨(some 6), none, .mov (.c (.g (.bool false)))⟩]) <|
    .ret)
   (.skip)) <|
 .reg [2, 18, 19, 20] [⟨(some 28), none, .bin .add (.t 20) (.c (.g (.int .i64 1)))⟩,
   ⟨(some 20), none, .mov (.t 28)⟩]
def F97 : IFunc := ⟨3, 29, [.tmp 6], false,
 .seq (.reg [0, 1, 2] [⟨(some 6), none, .mov (.c (.g (.bool false)))⟩]) <|
 .seq (.seq (.reg [0, 2, 16] [⟨(some 9), none, .mov (.t 0)⟩,
     ⟨(some 10), none, .bin .eql (.t 9) (.c (.g (.str [])))⟩,
     ⟨(some 11), none, .mov (.t 10)⟩,
     ⟨(some 12), (some (11, false)), .mov (.t 0)⟩,
     ⟨(some 13), (some (11, false)), .lenS (.t 12)⟩,
     ⟨(some 14), (some (11, false)), .mov (.t 1)⟩,
     ⟨(some 15), (some (11, false)), .bin .gtr (.t 13) (.t 14)⟩,
     ⟨(some 16), none, .pick (.t 11) (.c (.g (.bool true))) (.t 15)⟩]) <|
  .cond [0, 2] (.t 16)
   (.seq (.reg [6] [⟨(some 6), none, .mov (.c (.g (.bool false)))⟩]) <|
    .ret)
   (.skip)) <|
 .seq (.seq (.reg [2, 18, 19, 20] [⟨(some 17), none, .mov (.t 0)⟩,
     ⟨(some 18), none, .convSB (.t 17)⟩,
     ⟨(some 19), none, .len (.t 18)⟩,
     ⟨(some 20), none, .mov (.c (.g (.int .i64 0)))⟩]) <|
  .block [] 0 <|
  .loop [2, 18, 19, 20] [] L97_0) <|
 .seq (.reg [6] [⟨(some 6), none, .mov (.c (.g (.bool true)))⟩]) <|
 .ret⟩
def h97 : List (List Nat) := [[0, 1, 2], [0, 2, 16], [0, 2], [6], [2, 18, 19, 20], [], [2, 18, 19, 20], [2, 18, 19, 20, 21], [2, 18, 19, 20], [2, 18, 19, 20], [2, 8, 18, 19, 20], [2, 18, 19, 20, 27], [2, 18, 19, 20], [6], [2, 18, 19, 20], [6]]
theorem c97 : cFunc Try.prog 97 false h97 = some F97 := by kernel_rfl

/-- baton/key.Check$1 -/
def F98 : IFunc := ⟨1, 9, [.tmp 2], false,
 .seq (.reg [0] [⟨(some 2), none, .mov (.c (.g (.bool false)))⟩]) <|
 .seq (.reg [2] [⟨(some 3), none, .mov (.t 0)⟩,
    ⟨(some 4), none, .bin .gtr (.t 3) (.c (.g (.int .u8 32)))⟩,
    ⟨(some 5), none, .mov (.t 4)⟩,
    ⟨(some 6), (some (5, true)), .mov (.t 0)⟩,
    ⟨(some 7), (some (5, true)), .bin .leq (.t 6) (.c (.g (.int .u8 126)))⟩,
    ⟨(some 8), none, .pick (.t 5) (.t 7) (.c (.g (.bool false)))⟩,
    ⟨(some 2), none, .mov (.t 8)⟩]) <|
 .ret⟩
def h98 : List (List Nat) := [[0], [2]]
theorem c98 : cFunc Try.prog 98 false h98 = some F98 := by kernel_rfl

/-- cmp.isNaN[int] -/
def F99 : IFunc := ⟨1, 6, [.tmp 2], false,
 .seq (.reg [0] [⟨(some 2), none, .mov (.c (.g (.bool false)))⟩]) <|
 .seq (.reg [2] [⟨(some 3), none, .mov (.t 0)⟩,
    ⟨(some 4), none, .mov (.t 0)⟩,
    ⟨(some 5), none, .bin .neq (.t 3) (.t 4)⟩,
    ⟨(some 2), none, .mov (.t 5)⟩]) <|
 .ret⟩
def h99 : List (List Nat) := [[0], [2]]
theorem c99 : cFunc Try.prog 99 false h99 = some F99 := by kernel_rfl

/-- cmp.isNaN[string] -/
def F100 : IFunc := ⟨1, 6, [.tmp 2], false,
 .seq (.reg [0] [⟨(some 2), none, .mov (.c (.g (.bool false)))⟩]) <|
 .seq (.reg [2] [⟨(some 3), none, .mov (.t 0)⟩,
    ⟨(some 4), none, .mov (.t 0)⟩,
    ⟨(some 5), none, .bin .neq (.t 3) (.t 4)⟩,
    ⟨(some 2), none, .mov (.t 5)⟩]) <|
 .ret⟩
def h100 : List (List Nat) := [[0], [2]]
theorem c100 : cFunc Try.prog 100 false h100 = some F100 := by kernel_rfl

/-- slices.Grow[[]baton/api.KV,baton/api.KV] -/
def F101 : IFunc := ⟨2, 27, [.tmp 4], true,
 .seq (.reg [0, 1] [⟨(some 4), none, .nres 6⟩]) <|
 .seq (.seq (.reg [0, 1, 6] [⟨(some 5), none, .mov (.t 1)⟩,
     ⟨(some 6), none, .bin .lss (.t 5) (.c (.g (.int .i64 0)))⟩]) <|
  .cond [0, 1] (.t 6)
   (.reg [0, 1] [⟨(some 7), none, .mkif 9 (.c (.g (.str [99, 97, 110, 110, 111, 116, 32, 98, 101, 32, 110, 101, 103, 97, 116, 105, 118, 101])))⟩,
      ⟨none, none, .row 0 []⟩])
   (.skip)) <|
 .seq (.seq (.reg [0, 1] [⟨(some 8), none, .mov (.t 1)⟩,
     ⟨(some 9), none, .mov (.t 0)⟩,
     ⟨(some 10), none, .cap (.t 9)⟩,
     ⟨(some 11), none, .mov (.t 0)⟩,
     ⟨(some 12), none, .len (.t 11)⟩,
     ⟨(some 13), none, .bin .sub (.t 10) (.t 12)⟩,
     ⟨(some 14), none, .bin .sub (.t 8) (.t 13)⟩,
     ⟨(some 1), none, .mov (.t 14)⟩]) <|
  .seq (.reg [0, 1, 16] [⟨(some 15), none, .mov (.t 1)⟩,
     ⟨(some 16), none, .bin .gtr (.t 15) (.c (.g (.int .i64 0)))⟩]) <|
  .cond [0] (.t 16)
   (.reg [0] [⟨(some 17), none, .mov (.t 0)⟩,
      ⟨(some 18), none, .mov (.t 0)⟩,
      ⟨(some 19), none, .cap (.t 18)⟩,
      ⟨(some 20), none, .slc 6 (.t 17) none (some (.t 19))⟩,
      ⟨(some 21), none, .mov (.t 1)⟩,
      ⟨(some 22), none, .appZ 6 64 [.str [], .str [], .int .i64 0, .int .i64 0, .int .i64 0, .int .i64 0] (.t 20) (.t 21)⟩,
      ⟨(some 23), none, .mov (.t 0)⟩,
      ⟨(some 24), none, .len (.t 23)⟩,
      ⟨(some 25), none, .slc 6 (.t 22) none (some (.t 24))⟩,
      ⟨(some 0), none, .mov (.t 25)⟩])
   (.skip)) <|
 .seq (.reg [4] [⟨(some 26), none, .mov (.t 0)⟩,
    ⟨(some 4), none, .mov (.t 26)⟩]) <|
 .ret⟩
def h101 : List (List Nat) := [[0, 1], [0, 1, 6], [0, 1], [0, 1], [0, 1], [0, 1, 16], [0], [0], [4]]
theorem c101 : cFunc Try.prog 101 true h101 = some F101 := by kernel_rfl

end Go.Proofs.Ytnbclicefmpkiaa
