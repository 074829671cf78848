/- The compiled functions of the seat, part IRb2. No conditions. -/
import Derived.Test.YtlcjocciianphaaAMJ3
import Derived.Test.YtlcjocciianphaaProg
import Derived.KernelRfl
namespace Go.Proofs.Ytlcjocciianphaa
open Go Go.AM Go.Proofs
/-- baton/batonlaw13.live -/
def F37 : IFunc := ⟨0, 121, [.tmp 0], false,
 .seq (.reg [] [⟨(some 0), none, .mov (.c (.g (.bool false)))⟩]) <|
 .seq (.reg [1] [⟨(some 15), none, .build [.g (.int .i64 0), .g (.int .i64 0), .g (.int .i64 0), .g (.bool false), .g (.str []), .g (.str []), .g (.int .i64 0), .g (.int .i64 0), .g (.int .i64 0), .g (.int .i64 0), .g (.nsl), .g (.nsl), .g (.nsl)] [(0, 1, (.c (.g (.int .i64 1)))), (1, 1, (.c (.g (.int .i64 3)))), (2, 1, (.c (.g (.int .i64 4))))]⟩,
    ⟨(some 16), none, .call (.c (.g (.fn 38))) [(.t 15), (.c (.g (.int .i64 5)))]⟩,
    ⟨(some 1), none, .alloc [.z (.bool false), .z (.int .i64 0), .z (.int .i64 0), .z (.int .i64 0), .z (.bool false), .z (.str []), .z (.str []), .z (.int .i64 0), .z (.int .i64 0), .z (.int .i64 0), .z (.int .i64 0), .s 5, .s 4, .s 4, .z (.int .i64 0), .z (.int .i64 0), .z (.int .i64 0)]⟩,
    ⟨none, none, .store 17 (.t 1) (.t 16)⟩]) <|
 .seq (.reg [1, 2, 3, 4] [⟨(some 18), none, .load true 17 (.t 1)⟩,
    ⟨(some 19), none, .call (.c (.g (.fn 48))) [(.t 18), (.c (.g (.int .i64 5)))]⟩,
    ⟨(some 17), none, .mov (.t 19)⟩,
    ⟨(some 20), none, .ext 0 (.t 17)⟩,
    ⟨(some 21), none, .ext 1 (.t 17)⟩,
    ⟨(some 22), none, .ext 2 (.t 17)⟩,
    ⟨(some 2), none, .alloc [.z (.bool false), .z (.int .i64 0), .z (.int .i64 0), .z (.int .i64 0), .z (.bool false), .z (.str []), .z (.str []), .z (.int .i64 0), .z (.int .i64 0), .z (.int .i64 0), .z (.int .i64 0), .s 5, .s 4, .s 4, .z (.int .i64 0), .z (.int .i64 0), .z (.int .i64 0)]⟩,
    ⟨none, none, .store 17 (.t 2) (.t 20)⟩,
    ⟨(some 3), none, .mov (.t 21)⟩,
    ⟨(some 4), none, .mov (.t 22)⟩]) <|
 .seq (.reg [1, 2, 3, 4, 7] [⟨(some 24), none, .load true 17 (.t 2)⟩,
    ⟨(some 25), none, .call (.c (.g (.fn 48))) [(.t 24), (.c (.g (.int .i64 20)))]⟩,
    ⟨(some 23), none, .mov (.t 25)⟩,
    ⟨(some 26), none, .ext 0 (.t 23)⟩,
    ⟨(some 27), none, .ext 1 (.t 23)⟩,
    ⟨(some 28), none, .ext 2 (.t 23)⟩,
    ⟨(some 5), none, .alloc [.z (.bool false), .z (.int .i64 0), .z (.int .i64 0), .z (.int .i64 0), .z (.bool false), .z (.str []), .z (.str []), .z (.int .i64 0), .z (.int .i64 0), .z (.int .i64 0), .z (.int .i64 0), .s 5, .s 4, .s 4, .z (.int .i64 0), .z (.int .i64 0), .z (.int .i64 0)]⟩,
    ⟨none, none, .store 17 (.t 5) (.t 26)⟩,
    ⟨(some 6), none, .mov (.t 27)⟩,
    ⟨(some 7), none, .mov (.t 28)⟩]) <|
 .seq (.reg [1, 3, 4, 7, 8, 9, 10] [⟨(some 30), none, .load true 17 (.t 2)⟩,
    ⟨(some 31), none, .call (.c (.g (.fn 48))) [(.t 30), (.c (.g (.int .i64 21)))]⟩,
    ⟨(some 29), none, .mov (.t 31)⟩,
    ⟨(some 32), none, .ext 0 (.t 29)⟩,
    ⟨(some 33), none, .ext 1 (.t 29)⟩,
    ⟨(some 34), none, .ext 2 (.t 29)⟩,
    ⟨(some 8), none, .alloc [.z (.bool false), .z (.int .i64 0), .z (.int .i64 0), .z (.int .i64 0), .z (.bool false), .z (.str []), .z (.str []), .z (.int .i64 0), .z (.int .i64 0), .z (.int .i64 0), .z (.int .i64 0), .s 5, .s 4, .s 4, .z (.int .i64 0), .z (.int .i64 0), .z (.int .i64 0)]⟩,
    ⟨none, none, .store 17 (.t 8) (.t 32)⟩,
    ⟨(some 9), none, .mov (.t 33)⟩,
    ⟨(some 10), none, .mov (.t 34)⟩]) <|
 .seq (.reg [1, 3, 4, 7, 8, 9, 10, 12] [⟨(some 36), none, .load true 17 (.t 8)⟩,
    ⟨(some 37), none, .build [.g (.int .i64 0), .g (.int .i64 0), .g (.int .i64 0), .g (.int .i64 0), .g (.int .i64 0), .g (.int .i64 0), .g (.bool false), .g (.nsl), .g (.nsl)] [(1, 1, (.c (.g (.int .i64 3)))), (2, 1, (.c (.g (.int .i64 5))))]⟩,
    ⟨(some 38), none, .call (.c (.g (.fn 50))) [(.t 36), (.t 37)]⟩,
    ⟨(some 35), none, .mov (.t 38)⟩,
    ⟨(some 39), none, .ext 0 (.t 35)⟩,
    ⟨(some 40), none, .ext 1 (.t 35)⟩,
    ⟨(some 11), none, .alloc [.z (.bool false), .z (.int .i64 0), .z (.int .i64 0), .z (.int .i64 0), .z (.bool false), .z (.str []), .z (.str []), .z (.int .i64 0), .z (.int .i64 0), .z (.int .i64 0), .z (.int .i64 0), .s 5, .s 4, .s 4, .z (.int .i64 0), .z (.int .i64 0), .z (.int .i64 0)]⟩,
    ⟨none, none, .store 17 (.t 11) (.t 39)⟩,
    ⟨(some 12), none, .mov (.t 40)⟩]) <|
 .seq (.reg [1, 3, 4, 7, 8, 9, 10, 12, 13, 14] [⟨(some 42), none, .load true 17 (.t 8)⟩,
    ⟨(some 43), none, .build [.g (.int .i64 0), .g (.int .i64 0), .g (.int .i64 0), .g (.int .i64 0), .g (.int .i64 0), .g (.int .i64 0), .g (.bool false), .g (.nsl), .g (.nsl)] [(1, 1, (.c (.g (.int .i64 3)))), (2, 1, (.c (.g (.int .i64 4))))]⟩,
    ⟨(some 44), none, .call (.c (.g (.fn 50))) [(.t 42), (.t 43)]⟩,
    ⟨(some 41), none, .mov (.t 44)⟩,
    ⟨(some 45), none, .ext 0 (.t 41)⟩,
    ⟨(some 46), none, .ext 1 (.t 41)⟩,
    ⟨(some 13), none, .alloc [.z (.bool false), .z (.int .i64 0), .z (.int .i64 0), .z (.int .i64 0), .z (.bool false), .z (.str []), .z (.str []), .z (.int .i64 0), .z (.int .i64 0), .z (.int .i64 0), .z (.int .i64 0), .s 5, .s 4, .s 4, .z (.int .i64 0), .z (.int .i64 0), .z (.int .i64 0)]⟩,
    ⟨none, none, .store 17 (.t 13) (.t 45)⟩,
    ⟨(some 14), none, .mov (.t 46)⟩]) <|
 .seq (.reg [0] [⟨(some 47), none, .faddr 0 (.t 1)⟩,
    ⟨(some 48), none, .load false 1 (.t 47)⟩,
    ⟨(some 49), none, .mov (.t 48)⟩,
    ⟨(some 50), (some (49, true)), .faddr 14 (.t 1)⟩,
    ⟨(some 51), (some (49, true)), .load false 1 (.t 50)⟩,
    ⟨(some 52), (some (49, true)), .bin .eql (.t 51) (.c (.g (.int .i64 5)))⟩,
    ⟨(some 53), none, .pick (.t 49) (.t 52) (.c (.g (.bool false)))⟩,
    ⟨(some 54), none, .mov (.t 53)⟩,
    ⟨(some 55), (some (54, true)), .load true 17 (.t 1)⟩,
    ⟨(some 56), (some (54, true)), .call (.c (.g (.fn 41))) [(.t 55), (.c (.g (.int .i64 5)))]⟩,
    ⟨(some 57), none, .pick (.t 54) (.t 56) (.c (.g (.bool false)))⟩,
    ⟨(some 58), none, .mov (.t 57)⟩,
    ⟨(some 59), (some (58, true)), .load true 17 (.t 1)⟩,
    ⟨(some 60), (some (58, true)), .call (.c (.g (.fn 41))) [(.t 59), (.c (.g (.int .i64 4)))]⟩,
    ⟨(some 61), (some (58, true)), .un .not (.t 60)⟩,
    ⟨(some 62), none, .pick (.t 58) (.t 61) (.c (.g (.bool false)))⟩,
    ⟨(some 63), none, .mov (.t 62)⟩,
    ⟨(some 64), (some (63, true)), .mov (.t 4)⟩,
    ⟨(some 65), none, .pick (.t 63) (.t 64) (.c (.g (.bool false)))⟩,
    ⟨(some 66), none, .mov (.t 65)⟩,
    ⟨(some 67), (some (66, true)), .mov (.t 3)⟩,
    ⟨(some 68), (some (66, true)), .lenS (.t 67)⟩,
    ⟨(some 69), (some (66, true)), .bin .eql (.t 68) (.c (.g (.int .i64 14)))⟩,
    ⟨(some 70), none, .pick (.t 66) (.t 69) (.c (.g (.bool false)))⟩,
    ⟨(some 71), none, .mov (.t 70)⟩,
    ⟨(some 72), (some (71, true)), .mov (.t 7)⟩,
    ⟨(some 73), (some (71, true)), .un .not (.t 72)⟩,
    ⟨(some 74), none, .pick (.t 71) (.t 73) (.c (.g (.bool false)))⟩,
    ⟨(some 75), none, .mov (.t 74)⟩,
    ⟨(some 76), (some (75, true)), .mov (.t 10)⟩,
    ⟨(some 77), none, .pick (.t 75) (.t 76) (.c (.g (.bool false)))⟩,
    ⟨(some 78), none, .mov (.t 77)⟩,
    ⟨(some 79), (some (78, true)), .mov (.t 3)⟩,
    ⟨(some 80), (some (78, true)), .mov (.t 9)⟩,
    ⟨(some 81), (some (78, true)), .bin .eql (.t 79) (.t 80)⟩,
    ⟨(some 82), none, .pick (.t 78) (.t 81) (.c (.g (.bool false)))⟩,
    ⟨(some 83), none, .mov (.t 82)⟩,
    ⟨(some 84), (some (83, true)), .faddr 15 (.t 8)⟩,
    ⟨(some 85), (some (83, true)), .load false 1 (.t 84)⟩,
    ⟨(some 86), (some (83, true)), .bin .eql (.t 85) (.c (.g (.int .i64 53)))⟩,
    ⟨(some 87), none, .pick (.t 83) (.t 86) (.c (.g (.bool false)))⟩,
    ⟨(some 88), none, .mov (.t 87)⟩,
    ⟨(some 89), (some (88, true)), .faddr 16 (.t 8)⟩,
    ⟨(some 90), (some (88, true)), .load false 1 (.t 89)⟩,
    ⟨(some 91), (some (88, true)), .bin .eql (.t 90) (.c (.g (.int .i64 2)))⟩,
    ⟨(some 92), none, .pick (.t 88) (.t 91) (.c (.g (.bool false)))⟩,
    ⟨(some 93), none, .mov (.t 92)⟩,
    ⟨(some 94), (some (93, true)), .mov (.t 12)⟩,
    ⟨(some 95), (some (93, true)), .un .not (.t 94)⟩,
    ⟨(some 96), none, .pick (.t 93) (.t 95) (.c (.g (.bool false)))⟩,
    ⟨(some 97), none, .mov (.t 96)⟩,
    ⟨(some 98), (some (97, true)), .mov (.t 14)⟩,
    ⟨(some 99), none, .pick (.t 97) (.t 98) (.c (.g (.bool false)))⟩,
    ⟨(some 100), none, .mov (.t 99)⟩,
    ⟨(some 101), (some (100, true)), .faddr 0 (.t 13)⟩,
    ⟨(some 102), (some (100, true)), .load false 1 (.t 101)⟩,
    ⟨(some 103), (some (100, true)), .un .not (.t 102)⟩,
    ⟨(some 104), none, .pick (.t 100) (.t 103) (.c (.g (.bool false)))⟩,
    ⟨(some 105), none, .mov (.t 104)⟩,
    ⟨(some 106), (some (105, true)), .call (.c (.g (.fn 43))) [(.c (.g (.int .i64 (-1))))]⟩,
    ⟨(some 107), (some (105, true)), .bin .eql (.t 106) (.c (.g (.int .i64 16)))⟩,
    ⟨(some 108), none, .pick (.t 105) (.t 107) (.c (.g (.bool false)))⟩,
    ⟨(some 109), none, .mov (.t 108)⟩,
    ⟨(some 110), (some (109, true)), .call (.c (.g (.fn 43))) [(.c (.g (.int .i64 4)))]⟩,
    ⟨(some 111), (some (109, true)), .bin .eql (.t 110) (.c (.g (.int .i64 256)))⟩,
    ⟨(some 112), none, .pick (.t 109) (.t 111) (.c (.g (.bool false)))⟩,
    ⟨(some 113), none, .mov (.t 112)⟩,
    ⟨(some 114), (some (113, true)), .call (.c (.g (.fn 43))) [(.c (.g (.int .i64 99)))]⟩,
    ⟨(some 115), (some (113, true)), .bin .eql (.t 114) (.c (.g (.int .i64 256)))⟩,
    ⟨(some 116), none, .pick (.t 113) (.t 115) (.c (.g (.bool false)))⟩,
    ⟨(some 117), none, .mov (.t 116)⟩,
    ⟨(some 118), (some (117, true)), .call (.c (.g (.fn 45))) [(.c (.g (.int .i64 3)))]⟩,
    ⟨(some 119), (some (117, true)), .bin .eql (.t 118) (.c (.g (.int .i64 112)))⟩,
    ⟨(some 120), none, .pick (.t 117) (.t 119) (.c (.g (.bool false)))⟩,
    ⟨(some 0), none, .mov (.t 120)⟩]) <|
 .ret⟩
def h37 : List (List Nat) := [[], [1], [1, 2, 3, 4], [1, 2, 3, 4, 7], [1, 3, 4, 7, 8, 9, 10], [1, 3, 4, 7, 8, 9, 10, 12], [1, 3, 4, 7, 8, 9, 10, 12, 13, 14], [0]]
theorem c37 : cFunc Try.prog 37 false h37 = some F37 := by kernel_rfl

/-- baton/call.Begin -/
def F38 : IFunc := ⟨2, 9, [.cell 4 true 17], false,
 .seq (.reg [1, 2, 4] [⟨(some 2), none, .box (.t 0)⟩,
    ⟨(some 4), none, .alloc [.z (.bool false), .z (.int .i64 0), .z (.int .i64 0), .z (.int .i64 0), .z (.bool false), .z (.str []), .z (.str []), .z (.int .i64 0), .z (.int .i64 0), .z (.int .i64 0), .z (.int .i64 0), .s 5, .s 4, .s 4, .z (.int .i64 0), .z (.int .i64 0), .z (.int .i64 0)]⟩]) <|
 .seq (.reg [4] [⟨(some 5), none, .load true 13 (.t 2)⟩,
    ⟨(some 6), none, .mov (.t 1)⟩,
    ⟨(some 7), none, .mov (.t 1)⟩,
    ⟨(some 8), none, .build [.g (.bool false), .g (.int .i64 0), .g (.int .i64 0), .g (.int .i64 0), .g (.bool false), .g (.str []), .g (.str []), .g (.int .i64 0), .g (.int .i64 0), .g (.int .i64 0), .g (.int .i64 0), .g (.nsl), .g (.nsl), .g (.nsl), .g (.int .i64 0), .g (.int .i64 0), .g (.int .i64 0)] [(0, 1, (.c (.g (.bool true)))), (1, 13, (.t 5)), (14, 1, (.t 6)), (15, 1, (.t 7))]⟩,
    ⟨none, none, .store 17 (.t 4) (.t 8)⟩]) <|
 .ret⟩
def h38 : List (List Nat) := [[1, 2, 4], [4]]
theorem c38 : cFunc Try.prog 38 false h38 = some F38 := by kernel_rfl

/-- baton/batonref13.Same -/
def F39 : IFunc := ⟨2, 38, [.tmp 4], false,
 .seq (.reg [2, 3] [⟨(some 2), none, .box (.t 0)⟩,
    ⟨(some 3), none, .box (.t 1)⟩,
    ⟨(some 4), none, .mov (.c (.g (.bool false)))⟩]) <|
 .seq (.reg [4] [⟨(some 5), none, .faddr 0 (.t 2)⟩,
    ⟨(some 6), none, .load false 1 (.t 5)⟩,
    ⟨(some 7), none, .faddr 0 (.t 3)⟩,
    ⟨(some 8), none, .load false 1 (.t 7)⟩,
    ⟨(some 9), none, .eqs false false [.b] (.t 6) (.t 8)⟩,
    ⟨(some 10), none, .mov (.t 9)⟩,
    ⟨(some 11), (some (10, true)), .faddr 1 (.t 2)⟩,
    ⟨(some 12), (some (10, true)), .load true 13 (.t 11)⟩,
    ⟨(some 13), (some (10, true)), .faddr 1 (.t 3)⟩,
    ⟨(some 14), (some (10, true)), .load true 13 (.t 13)⟩,
    ⟨(some 15), (some (10, true)), .call (.c (.g (.fn 54))) [(.t 12), (.t 14)]⟩,
    ⟨(some 16), none, .pick (.t 10) (.t 15) (.c (.g (.bool false)))⟩,
    ⟨(some 17), none, .mov (.t 16)⟩,
    ⟨(some 18), (some (17, true)), .faddr 14 (.t 2)⟩,
    ⟨(some 19), (some (17, true)), .load false 1 (.t 18)⟩,
    ⟨(some 20), (some (17, true)), .faddr 14 (.t 3)⟩,
    ⟨(some 21), (some (17, true)), .load false 1 (.t 20)⟩,
    ⟨(some 22), (some (17, true)), .bin .eql (.t 19) (.t 21)⟩,
    ⟨(some 23), none, .pick (.t 17) (.t 22) (.c (.g (.bool false)))⟩,
    ⟨(some 24), none, .mov (.t 23)⟩,
    ⟨(some 25), (some (24, true)), .faddr 15 (.t 2)⟩,
    ⟨(some 26), (some (24, true)), .load false 1 (.t 25)⟩,
    ⟨(some 27), (some (24, true)), .faddr 15 (.t 3)⟩,
    ⟨(some 28), (some (24, true)), .load false 1 (.t 27)⟩,
    ⟨(some 29), (some (24, true)), .bin .eql (.t 26) (.t 28)⟩,
    ⟨(some 30), none, .pick (.t 24) (.t 29) (.c (.g (.bool false)))⟩,
    ⟨(some 31), none, .mov (.t 30)⟩,
    ⟨(some 32), (some (31, true)), .faddr 16 (.t 2)⟩,
    ⟨(some 33), (some (31, true)), .load false 1 (.t 32)⟩,
    ⟨(some 34), (some (31, true)), .faddr 16 (.t 3)⟩,
    ⟨(some 35), (some (31, true)), .load false 1 (.t 34)⟩,
    ⟨(some 36), (some (31, true)), .bin .eql (.t 33) (.t 35)⟩,
    ⟨(some 37), none, .pick (.t 31) (.t 36) (.c (.g (.bool false)))⟩,
    ⟨(some 4), none, .mov (.t 37)⟩]) <|
 .ret⟩
def h39 : List (List Nat) := [[2, 3], [4]]
theorem c39 : cFunc Try.prog 39 false h39 = some F39 := by kernel_rfl

/-- baton/batonref13.Begin -/
def F40 : IFunc := ⟨2, 9, [.cell 4 true 17], false,
 .seq (.reg [1, 2, 4] [⟨(some 2), none, .box (.t 0)⟩,
    ⟨(some 4), none, .alloc [.z (.bool false), .z (.int .i64 0), .z (.int .i64 0), .z (.int .i64 0), .z (.bool false), .z (.str []), .z (.str []), .z (.int .i64 0), .z (.int .i64 0), .z (.int .i64 0), .z (.int .i64 0), .s 5, .s 4, .s 4, .z (.int .i64 0), .z (.int .i64 0), .z (.int .i64 0)]⟩]) <|
 .seq (.reg [4] [⟨(some 5), none, .load true 13 (.t 2)⟩,
    ⟨(some 6), none, .mov (.t 1)⟩,
    ⟨(some 7), none, .mov (.t 1)⟩,
    ⟨(some 8), none, .build [.g (.bool false), .g (.int .i64 0), .g (.int .i64 0), .g (.int .i64 0), .g (.bool false), .g (.str []), .g (.str []), .g (.int .i64 0), .g (.int .i64 0), .g (.int .i64 0), .g (.int .i64 0), .g (.nsl), .g (.nsl), .g (.nsl), .g (.int .i64 0), .g (.int .i64 0), .g (.int .i64 0)] [(0, 1, (.c (.g (.bool true)))), (1, 13, (.t 5)), (14, 1, (.t 6)), (15, 1, (.t 7))]⟩,
    ⟨none, none, .store 17 (.t 4) (.t 8)⟩]) <|
 .ret⟩
def h40 : List (List Nat) := [[1, 2, 4], [4]]
theorem c40 : cFunc Try.prog 40 false h40 = some F40 := by kernel_rfl

/-- baton/call.Due -/
def F41 : IFunc := ⟨2, 13, [.tmp 4], false,
 .seq (.reg [1, 2] [⟨(some 2), none, .box (.t 0)⟩,
    ⟨(some 4), none, .mov (.c (.g (.bool false)))⟩]) <|
 .seq (.reg [4] [⟨(some 5), none, .faddr 0 (.t 2)⟩,
    ⟨(some 6), none, .load false 1 (.t 5)⟩,
    ⟨(some 7), none, .mov (.t 6)⟩,
    ⟨(some 8), (some (7, true)), .mov (.t 1)⟩,
    ⟨(some 9), (some (7, true)), .faddr 15 (.t 2)⟩,
    ⟨(some 10), (some (7, true)), .load false 1 (.t 9)⟩,
    ⟨(some 11), (some (7, true)), .bin .geq (.t 8) (.t 10)⟩,
    ⟨(some 12), none, .pick (.t 7) (.t 11) (.c (.g (.bool false)))⟩,
    ⟨(some 4), none, .mov (.t 12)⟩]) <|
 .ret⟩
def h41 : List (List Nat) := [[1, 2], [4]]
theorem c41 : cFunc Try.prog 41 false h41 = some F41 := by kernel_rfl

/-- baton/batonref13.Due -/
def F42 : IFunc := ⟨2, 13, [.tmp 4], false,
 .seq (.reg [1, 2] [⟨(some 2), none, .box (.t 0)⟩,
    ⟨(some 4), none, .mov (.c (.g (.bool false)))⟩]) <|
 .seq (.reg [4] [⟨(some 5), none, .faddr 0 (.t 2)⟩,
    ⟨(some 6), none, .load false 1 (.t 5)⟩,
    ⟨(some 7), none, .mov (.t 6)⟩,
    ⟨(some 8), (some (7, true)), .mov (.t 1)⟩,
    ⟨(some 9), (some (7, true)), .faddr 15 (.t 2)⟩,
    ⟨(some 10), (some (7, true)), .load false 1 (.t 9)⟩,
    ⟨(some 11), (some (7, true)), .bin .geq (.t 8) (.t 10)⟩,
    ⟨(some 12), none, .pick (.t 7) (.t 11) (.c (.g (.bool false)))⟩,
    ⟨(some 4), none, .mov (.t 12)⟩]) <|
 .ret⟩
def h42 : List (List Nat) := [[1, 2], [4]]
theorem c42 : cFunc Try.prog 42 false h42 = some F42 := by kernel_rfl

/-- baton/call.Pause -/
def F43 : IFunc := ⟨1, 8, [.tmp 2], false,
 .seq (.reg [0] [⟨(some 2), none, .mov (.c (.g (.int .i64 0)))⟩]) <|
 .seq (.reg [2] [⟨(some 3), none, .mov (.t 0)⟩,
    ⟨(some 4), none, .mx (.t 3) [(.c (.g (.int .i64 0)))]⟩,
    ⟨(some 5), none, .mn (.t 4) [(.c (.g (.int .i64 4)))]⟩,
    ⟨(some 6), none, .conv .u8 (.t 5)⟩,
    ⟨(some 7), none, .bin .shl (.c (.g (.int .i64 16))) (.t 6)⟩,
    ⟨(some 2), none, .mov (.t 7)⟩]) <|
 .ret⟩
def h43 : List (List Nat) := [[0], [2]]
theorem c43 : cFunc Try.prog 43 false h43 = some F43 := by kernel_rfl

/-- baton/batonref13.Pause -/
def L44_0 : IC :=
 .seq (.seq (.reg [0, 3, 4, 11] [⟨(some 5), none, .mov (.t 4)⟩,
     ⟨(some 6), none, .mov (.t 0)⟩,
     ⟨(some 7), none, .bin .lss (.t 5) (.t 6)⟩,
     ⟨(some 8), none, .mov (.t 7)⟩,
     ⟨(some 9), (some (8, true)), .mov (.t 3)⟩,
     ⟨(some 10), (some (8, true)), .bin .lss (.t 9) (.c (.g (.int .i64 256)))⟩,
     ⟨(some 11), none, .pick (.t 8) (.t 10) (.c (.g (.bool false)))⟩]) <|
  .cond [0, 3, 4] (.t 11)
   (.skip)
   (.exit 0)) <|
 .seq (.block [0, 3, 4] 1 <|
  .reg [0, 3, 4] [⟨(some 14), none, .mov (.t 3)⟩,
    ⟨(some 15), none, .bin .mul (.c (.g (.int .i64 2))) (.t 14)⟩,
    ⟨(some 3), none, .mov (.t 15)⟩]) <|
 .reg [0, 3, 4] [⟨(some 12), none, .mov (.t 4)⟩,
   ⟨(some 13), none, .bin .add (.t 12) (.c (.g (.int .i64 1)))⟩,
   ⟨(some 4), none, .mov (.t 13)⟩]
def F44 : IFunc := ⟨1, 17, [.tmp 2], false,
 .seq (.reg [0] [⟨(some 2), none, .mov (.c (.g (.int .i64 0)))⟩]) <|
 .seq (.reg [0, 3] [⟨(some 3), none, .mov (.c (.g (.int .i64 16)))⟩]) <|
 .seq (.seq (.reg [0, 3, 4] [⟨(some 4), none, .mov (.c (.g (.int .i64 0)))⟩]) <|
  .block [3] 0 <|
  .loop [0, 3, 4] [] L44_0) <|
 .seq (.reg [2] [⟨(some 16), none, .mov (.t 3)⟩,
    ⟨(some 2), none, .mov (.t 16)⟩]) <|
 .ret⟩
def h44 : List (List Nat) := [[0], [0, 3], [0, 3, 4], [3], [0, 3, 4], [0, 3, 4, 11], [0, 3, 4], [0, 3, 4], [0, 3, 4], [0, 3, 4], [2]]
theorem c44 : cFunc Try.prog 44 false h44 = some F44 := by kernel_rfl

/-- baton/call.Wait -/
def F45 : IFunc := ⟨1, 18, [.tmp 2], false,
 .seq (.reg [0] [⟨(some 2), none, .mov (.c (.g (.int .i64 0)))⟩]) <|
 .seq (.reg [0] [⟨(some 4), none, .mov (.t 0)⟩,
    ⟨(some 5), none, .mx (.t 4) [(.c (.g (.int .i64 0)))]⟩,
    ⟨(some 6), none, .mn (.t 5) [(.c (.g (.int .i64 1048576)))]⟩,
    ⟨(some 0), none, .mov (.t 6)⟩]) <|
 .seq (.reg [0, 3] [⟨(some 7), none, .mov (.t 0)⟩,
    ⟨(some 8), none, .mn (.t 7) [(.c (.g (.int .i64 4)))]⟩,
    ⟨(some 3), none, .mov (.t 8)⟩]) <|
 .seq (.reg [2] [⟨(some 9), none, .mov (.t 3)⟩,
    ⟨(some 10), none, .conv .u8 (.t 9)⟩,
    ⟨(some 11), none, .bin .shl (.c (.g (.int .i64 16))) (.t 10)⟩,
    ⟨(some 12), none, .bin .sub (.t 11) (.c (.g (.int .i64 16)))⟩,
    ⟨(some 13), none, .mov (.t 0)⟩,
    ⟨(some 14), none, .mov (.t 3)⟩,
    ⟨(some 15), none, .bin .sub (.t 13) (.t 14)⟩,
    ⟨(some 16), none, .bin .mul (.c (.g (.int .i64 256))) (.t 15)⟩,
    ⟨(some 17), none, .bin .add (.t 12) (.t 16)⟩,
    ⟨(some 2), none, .mov (.t 17)⟩]) <|
 .ret⟩
def h45 : List (List Nat) := [[0], [0], [0, 3], [2]]
theorem c45 : cFunc Try.prog 45 false h45 = some F45 := by kernel_rfl

/-- baton/batonref13.Wait -/
def L46_0 : IC :=
 .seq (.seq (.reg [0, 3, 4, 11] [⟨(some 5), none, .mov (.t 4)⟩,
     ⟨(some 6), none, .mov (.t 0)⟩,
     ⟨(some 7), none, .bin .lss (.t 5) (.t 6)⟩,
     ⟨(some 8), none, .mov (.t 7)⟩,
     ⟨(some 9), (some (8, true)), .mov (.t 4)⟩,
     ⟨(some 10), (some (8, true)), .bin .lss (.t 9) (.c (.g (.int .i64 1048576)))⟩,
     ⟨(some 11), none, .pick (.t 8) (.t 10) (.c (.g (.bool false)))⟩]) <|
  .cond [0, 3, 4] (.t 11)
   (.skip)
   (.exit 0)) <|
 .seq (.block [0, 3, 4] 1 <|
  .reg [0, 3, 4] [⟨(some 14), none, .mov (.t 3)⟩,
    ⟨(some 15), none, .mov (.t 4)⟩,
    ⟨(some 16), none, .call (.c (.g (.fn 44))) [(.t 15)]⟩,
    ⟨(some 17), none, .bin .add (.t 14) (.t 16)⟩,
    ⟨(some 3), none, .mov (.t 17)⟩]) <|
 .reg [0, 3, 4] [⟨(some 12), none, .mov (.t 4)⟩,
   ⟨(some 13), none, .bin .add (.t 12) (.c (.g (.int .i64 1)))⟩,
   ⟨(some 4), none, .mov (.t 13)⟩]
def F46 : IFunc := ⟨1, 19, [.tmp 2], false,
 .seq (.reg [0] [⟨(some 2), none, .mov (.c (.g (.int .i64 0)))⟩]) <|
 .seq (.reg [0, 3] [⟨(some 3), none, .mov (.c (.g (.int .i64 0)))⟩]) <|
 .seq (.seq (.reg [0, 3, 4] [⟨(some 4), none, .mov (.c (.g (.int .i64 0)))⟩]) <|
  .block [3] 0 <|
  .loop [0, 3, 4] [] L46_0) <|
 .seq (.reg [2] [⟨(some 18), none, .mov (.t 3)⟩,
    ⟨(some 2), none, .mov (.t 18)⟩]) <|
 .ret⟩
def h46 : List (List Nat) := [[0], [0, 3], [0, 3, 4], [3], [0, 3, 4], [0, 3, 4, 11], [0, 3, 4], [0, 3, 4], [0, 3, 4], [0, 3, 4], [2]]
theorem c46 : cFunc Try.prog 46 false h46 = some F46 := by kernel_rfl

/-- baton/batonref03.FewEvents -/
def L47_0 : IC :=
 .seq (.seq (.reg [0, 5, 13] [⟨(some 10), none, .mov (.t 5)⟩,
     ⟨(some 11), none, .mov (.t 0)⟩,
     ⟨(some 12), none, .len (.t 11)⟩,
     ⟨(some 13), none, .bin .lss (.t 10) (.t 12)⟩]) <|
  .cond [0, 5] (.t 13)
   (.skip)
   (.exit 0)) <|
 .seq (.block [0, 5] 1 <|
  .seq (.reg [0, 5, 33] [⟨(some 16), none, .mov (.t 0)⟩,
     ⟨(some 17), none, .mov (.t 5)⟩,
     ⟨(some 18), none, .iaddr 8 (.t 16) (.t 17)⟩,
     ⟨(some 19), none, .faddr 2 (.t 18)⟩,
     ⟨(some 20), none, .faddr 0 (.t 19)⟩,
     ⟨(some 21), none, .load false 1 (.t 20)⟩,
     ⟨(some 22), none, .lenS (.t 21)⟩,
     ⟨(some 23), none, .bin .gtr (.t 22) (.c (.g (.int .i64 60)))⟩,
     ⟨(some 24), none, .mov (.t 23)⟩,
     ⟨(some 25), (some (24, false)), .mov (.t 0)⟩,
     ⟨(some 26), (some (24, false)), .mov (.t 5)⟩,
     ⟨(some 27), (some (24, false)), .iaddr 8 (.t 25) (.t 26)⟩,
     ⟨(some 28), (some (24, false)), .faddr 2 (.t 27)⟩,
     ⟨(some 29), (some (24, false)), .faddr 1 (.t 28)⟩,
     ⟨(some 30), (some (24, false)), .load false 1 (.t 29)⟩,
     ⟨(some 31), (some (24, false)), .lenS (.t 30)⟩,
     ⟨(some 32), (some (24, false)), .bin .gtr (.t 31) (.c (.g (.int .i64 60)))⟩,
     ⟨(some 33), none, .pick (.t 24) (.c (.g (.bool true))) (.t 32)⟩]) <|
  .cond [0, 5] (.t 33)
   (.seq (.reg [4] [⟨(some 4), none, .mov (.c (.g (.bool false)))⟩]) <|
    .ret)
   (.skip)) <|
 .reg [0, 5] [⟨(some 14), none, .mov (.t 5)⟩,
   ⟨(some 15), none, .bin .add (.t 14) (.c (.g (.int .i64 1)))⟩,
   ⟨(some 5), none, .mov (.t 15)⟩]
def F47 : IFunc := ⟨2, 34, [.tmp 4], false,
 .seq (.reg [0, 1] [⟨(some 4), none, .mov (.c (.g (.bool false)))⟩]) <|
 .seq (.seq (.reg [0, 9] [⟨(some 6), none, .mov (.t 0)⟩,
     ⟨(some 7), none, .len (.t 6)⟩,
     ⟨(some 8), none, .mov (.t 1)⟩,
     ⟨(some 9), none, .bin .gtr (.t 7) (.t 8)⟩]) <|
  .cond [0] (.t 9)
   (.seq (.reg [4] [⟨(some 4), none, .mov (.c (.g (.bool false)))⟩]) <|
    .ret)
   (.skip)) <|
 .seq (.seq (.reg [0, 5] [⟨(some 5), none, .mov (.c (.g (.int .i64 0)))⟩]) <|
  .block [] 0 <|
  .loop [0, 5] [] L47_0) <|
 .seq (.reg [4] [⟨(some 4), none, .mov (.c (.g (.bool true)))⟩]) <|
 .ret⟩
def h47 : List (List Nat) := [[0, 1], [0, 9], [0], [4], [0, 5], [], [0, 5], [0, 5, 13], [0, 5], [0, 5], [0, 5, 33], [0, 5], [4], [0, 5], [4]]
theorem c47 : cFunc Try.prog 47 false h47 = some F47 := by kernel_rfl

/-- baton/call.Sends -/
def F48 : IFunc := ⟨2, 44, [.cell 4 true 17, .tmp 5, .tmp 6], false,
 .seq (.reg [1, 2, 4] [⟨(some 2), none, .box (.t 0)⟩,
    ⟨(some 4), none, .alloc [.z (.bool false), .z (.int .i64 0), .z (.int .i64 0), .z (.int .i64 0), .z (.bool false), .z (.str []), .z (.str []), .z (.int .i64 0), .z (.int .i64 0), .z (.int .i64 0), .z (.int .i64 0), .s 5, .s 4, .s 4, .z (.int .i64 0), .z (.int .i64 0), .z (.int .i64 0)]⟩,
    ⟨(some 5), none, .mov (.c (.g (.str [])))⟩,
    ⟨(some 6), none, .mov (.c (.g (.bool false)))⟩]) <|
 .seq (.reg [1, 2, 4, 7, 8] [⟨(some 10), none, .faddr 1 (.t 2)⟩,
    ⟨(some 11), none, .load true 13 (.t 10)⟩,
    ⟨(some 12), none, .call (.c (.g (.fn 53))) [(.t 11)]⟩,
    ⟨(some 9), none, .mov (.t 12)⟩,
    ⟨(some 13), none, .ext 0 (.t 9)⟩,
    ⟨(some 14), none, .ext 1 (.t 9)⟩,
    ⟨(some 7), none, .mov (.t 13)⟩,
    ⟨(some 8), none, .mov (.t 14)⟩]) <|
 .seq (.seq (.reg [1, 2, 4, 7, 30] [⟨(some 15), none, .mov (.t 8)⟩,
     ⟨(some 16), none, .un .not (.t 15)⟩,
     ⟨(some 17), none, .mov (.t 16)⟩,
     ⟨(some 18), (some (17, false)), .load true 17 (.t 2)⟩,
     ⟨(some 19), (some (17, false)), .mov (.t 1)⟩,
     ⟨(some 20), (some (17, false)), .call (.c (.g (.fn 41))) [(.t 18), (.t 19)]⟩,
     ⟨(some 21), (some (17, false)), .un .not (.t 20)⟩,
     ⟨(some 22), none, .pick (.t 17) (.c (.g (.bool true))) (.t 21)⟩,
     ⟨(some 23), none, .mov (.t 22)⟩,
     ⟨(some 24), (some (23, false)), .mov (.t 1)⟩,
     ⟨(some 25), (some (23, false)), .bin .lss (.t 24) (.c (.g (.int .i64 0)))⟩,
     ⟨(some 26), none, .pick (.t 23) (.c (.g (.bool true))) (.t 25)⟩,
     ⟨(some 27), none, .mov (.t 26)⟩,
     ⟨(some 28), (some (27, false)), .mov (.t 1)⟩,
     ⟨(some 29), (some (27, false)), .bin .gtr (.t 28) (.c (.g (.int .i64 1099511627775)))⟩,
     ⟨(some 30), none, .pick (.t 27) (.c (.g (.bool true))) (.t 29)⟩]) <|
  .cond [1, 2, 4, 7] (.t 30)
   (.seq (.reg [4, 5, 6] [⟨(some 31), none, .load true 17 (.t 2)⟩,
       ⟨none, none, .store 17 (.t 4) (.t 31)⟩,
       ⟨(some 5), none, .mov (.c (.g (.str [])))⟩,
       ⟨(some 6), none, .mov (.c (.g (.bool false)))⟩]) <|
    .ret)
   (.skip)) <|
 .seq (.reg [2, 4, 7] [⟨(some 32), none, .mov (.t 1)⟩,
    ⟨(some 33), none, .faddr 16 (.t 2)⟩,
    ⟨(some 34), none, .load false 1 (.t 33)⟩,
    ⟨(some 35), none, .call (.c (.g (.fn 43))) [(.t 34)]⟩,
    ⟨(some 36), none, .bin .add (.t 32) (.t 35)⟩,
    ⟨(some 37), none, .faddr 15 (.t 2)⟩,
    ⟨none, none, .store 1 (.t 37) (.t 36)⟩]) <|
 .seq (.reg [2, 4, 7] [⟨(some 38), none, .faddr 16 (.t 2)⟩,
    ⟨(some 39), none, .load false 1 (.t 38)⟩,
    ⟨(some 40), none, .bin .add (.t 39) (.c (.g (.int .i64 1)))⟩,
    ⟨(some 41), none, .faddr 16 (.t 2)⟩,
    ⟨none, none, .store 1 (.t 41) (.t 40)⟩]) <|
 .seq (.reg [4, 5, 6] [⟨(some 42), none, .load true 17 (.t 2)⟩,
    ⟨(some 43), none, .mov (.t 7)⟩,
    ⟨none, none, .store 17 (.t 4) (.t 42)⟩,
    ⟨(some 5), none, .mov (.t 43)⟩,
    ⟨(some 6), none, .mov (.c (.g (.bool true)))⟩]) <|
 .ret⟩
def h48 : List (List Nat) := [[1, 2, 4], [1, 2, 4, 7, 8], [1, 2, 4, 7, 30], [1, 2, 4, 7], [4, 5, 6], [2, 4, 7], [2, 4, 7], [4, 5, 6]]
theorem c48 : cFunc Try.prog 48 false h48 = some F48 := by kernel_rfl

/-- baton/batonref13.Sends -/
def F49 : IFunc := ⟨2, 46, [.cell 4 true 17, .tmp 5, .tmp 6], false,
 .seq (.reg [1, 2, 4] [⟨(some 2), none, .box (.t 0)⟩,
    ⟨(some 4), none, .alloc [.z (.bool false), .z (.int .i64 0), .z (.int .i64 0), .z (.int .i64 0), .z (.bool false), .z (.str []), .z (.str []), .z (.int .i64 0), .z (.int .i64 0), .z (.int .i64 0), .z (.int .i64 0), .s 5, .s 4, .s 4, .z (.int .i64 0), .z (.int .i64 0), .z (.int .i64 0)]⟩,
    ⟨(some 5), none, .mov (.c (.g (.str [])))⟩,
    ⟨(some 6), none, .mov (.c (.g (.bool false)))⟩]) <|
 .seq (.reg [1, 2, 4, 7, 8] [⟨(some 11), none, .faddr 1 (.t 2)⟩,
    ⟨(some 12), none, .load true 13 (.t 11)⟩,
    ⟨(some 13), none, .call (.c (.g (.fn 68))) [(.t 12)]⟩,
    ⟨(some 10), none, .mov (.t 13)⟩,
    ⟨(some 14), none, .ext 0 (.t 10)⟩,
    ⟨(some 15), none, .ext 1 (.t 10)⟩,
    ⟨(some 7), none, .mov (.t 14)⟩,
    ⟨(some 8), none, .mov (.t 15)⟩]) <|
 .seq (.seq (.reg [1, 2, 4, 7, 31] [⟨(some 16), none, .load true 17 (.t 2)⟩,
     ⟨(some 17), none, .mov (.t 1)⟩,
     ⟨(some 18), none, .call (.c (.g (.fn 42))) [(.t 16), (.t 17)]⟩,
     ⟨(some 19), none, .un .not (.t 18)⟩,
     ⟨(some 20), none, .mov (.t 19)⟩,
     ⟨(some 21), (some (20, false)), .mov (.t 8)⟩,
     ⟨(some 22), (some (20, false)), .un .not (.t 21)⟩,
     ⟨(some 23), none, .pick (.t 20) (.c (.g (.bool true))) (.t 22)⟩,
     ⟨(some 24), none, .mov (.t 23)⟩,
     ⟨(some 25), (some (24, false)), .mov (.t 1)⟩,
     ⟨(some 26), (some (24, false)), .bin .lss (.t 25) (.c (.g (.int .i64 0)))⟩,
     ⟨(some 27), none, .pick (.t 24) (.c (.g (.bool true))) (.t 26)⟩,
     ⟨(some 28), none, .mov (.t 27)⟩,
     ⟨(some 29), (some (28, false)), .mov (.t 1)⟩,
     ⟨(some 30), (some (28, false)), .bin .gtr (.t 29) (.c (.g (.int .i64 1099511627775)))⟩,
     ⟨(some 31), none, .pick (.t 28) (.c (.g (.bool true))) (.t 30)⟩]) <|
  .cond [1, 2, 4, 7] (.t 31)
   (.seq (.reg [4, 5, 6] [⟨(some 32), none, .load true 17 (.t 2)⟩,
       ⟨none, none, .store 17 (.t 4) (.t 32)⟩,
       ⟨(some 5), none, .mov (.c (.g (.str [])))⟩,
       ⟨(some 6), none, .mov (.c (.g (.bool false)))⟩]) <|
    .ret)
   (.skip)) <|
 .seq (.reg [1, 2, 4, 7, 9] [⟨(some 33), none, .load true 17 (.t 2)⟩,
    ⟨(some 9), none, .alloc [.z (.bool false), .z (.int .i64 0), .z (.int .i64 0), .z (.int .i64 0), .z (.bool false), .z (.str []), .z (.str []), .z (.int .i64 0), .z (.int .i64 0), .z (.int .i64 0), .z (.int .i64 0), .s 5, .s 4, .s 4, .z (.int .i64 0), .z (.int .i64 0), .z (.int .i64 0)]⟩,
    ⟨none, none, .store 17 (.t 9) (.t 33)⟩]) <|
 .seq (.reg [2, 4, 7, 9] [⟨(some 34), none, .mov (.t 1)⟩,
    ⟨(some 35), none, .faddr 16 (.t 2)⟩,
    ⟨(some 36), none, .load false 1 (.t 35)⟩,
    ⟨(some 37), none, .call (.c (.g (.fn 44))) [(.t 36)]⟩,
    ⟨(some 38), none, .bin .add (.t 34) (.t 37)⟩,
    ⟨(some 39), none, .faddr 15 (.t 9)⟩,
    ⟨none, none, .store 1 (.t 39) (.t 38)⟩]) <|
 .seq (.reg [4, 7, 9] [⟨(some 40), none, .faddr 16 (.t 2)⟩,
    ⟨(some 41), none, .load false 1 (.t 40)⟩,
    ⟨(some 42), none, .bin .add (.t 41) (.c (.g (.int .i64 1)))⟩,
    ⟨(some 43), none, .faddr 16 (.t 9)⟩,
    ⟨none, none, .store 1 (.t 43) (.t 42)⟩]) <|
 .seq (.reg [4, 5, 6] [⟨(some 44), none, .load true 17 (.t 9)⟩,
    ⟨(some 45), none, .mov (.t 7)⟩,
    ⟨none, none, .store 17 (.t 4) (.t 44)⟩,
    ⟨(some 5), none, .mov (.t 45)⟩,
    ⟨(some 6), none, .mov (.c (.g (.bool true)))⟩]) <|
 .ret⟩
def h49 : List (List Nat) := [[1, 2, 4], [1, 2, 4, 7, 8], [1, 2, 4, 7, 31], [1, 2, 4, 7], [4, 5, 6], [1, 2, 4, 7, 9], [2, 4, 7, 9], [4, 7, 9], [4, 5, 6]]
theorem c49 : cFunc Try.prog 49 false h49 = some F49 := by kernel_rfl

/-- baton/call.Gets -/
def F50 : IFunc := ⟨2, 26, [.cell 4 true 17, .tmp 5], false,
 .seq (.reg [2, 3, 4] [⟨(some 2), none, .box (.t 0)⟩,
    ⟨(some 3), none, .box (.t 1)⟩,
    ⟨(some 4), none, .alloc [.z (.bool false), .z (.int .i64 0), .z (.int .i64 0), .z (.int .i64 0), .z (.bool false), .z (.str []), .z (.str []), .z (.int .i64 0), .z (.int .i64 0), .z (.int .i64 0), .z (.int .i64 0), .s 5, .s 4, .s 4, .z (.int .i64 0), .z (.int .i64 0), .z (.int .i64 0)]⟩,
    ⟨(some 5), none, .mov (.c (.g (.bool false)))⟩]) <|
 .seq (.reg [2, 3, 4, 6] [⟨(some 7), none, .faddr 1 (.t 2)⟩,
    ⟨(some 8), none, .faddr 1 (.t 7)⟩,
    ⟨(some 9), none, .load false 1 (.t 8)⟩,
    ⟨(some 10), none, .faddr 1 (.t 2)⟩,
    ⟨(some 11), none, .faddr 2 (.t 10)⟩,
    ⟨(some 12), none, .load false 1 (.t 11)⟩,
    ⟨(some 13), none, .build [.g (.int .i64 0), .g (.int .i64 0)] [(0, 1, (.t 9)), (1, 1, (.t 12))]⟩,
    ⟨(some 14), none, .mkbv 69 [(.t 13)]⟩,
    ⟨(some 6), none, .mov (.t 14)⟩]) <|
 .seq (.seq (.reg [2, 4, 23] [⟨(some 15), none, .faddr 0 (.t 2)⟩,
     ⟨(some 16), none, .load false 1 (.t 15)⟩,
     ⟨(some 17), none, .un .not (.t 16)⟩,
     ⟨(some 18), none, .mov (.t 17)⟩,
     ⟨(some 19), (some (18, false)), .mov (.t 6)⟩,
     ⟨(some 20), (some (18, false)), .load true 9 (.t 3)⟩,
     ⟨(some 21), (some (18, false)), .call (.t 19) [(.t 20)]⟩,
     ⟨(some 22), (some (18, false)), .un .not (.t 21)⟩,
     ⟨(some 23), none, .pick (.t 18) (.c (.g (.bool true))) (.t 22)⟩]) <|
  .cond [4] (.t 23)
   (.seq (.reg [4, 5] [⟨(some 24), none, .load true 17 (.t 2)⟩,
       ⟨none, none, .store 17 (.t 4) (.t 24)⟩,
       ⟨(some 5), none, .mov (.c (.g (.bool false)))⟩]) <|
    .ret)
   (.skip)) <|
 .seq (.reg [4, 5] [⟨(some 25), none, .build [.g (.bool false), .g (.int .i64 0), .g (.int .i64 0), .g (.int .i64 0), .g (.bool false), .g (.str []), .g (.str []), .g (.int .i64 0), .g (.int .i64 0), .g (.int .i64 0), .g (.int .i64 0), .g (.nsl), .g (.nsl), .g (.nsl), .g (.int .i64 0), .g (.int .i64 0), .g (.int .i64 0)] []⟩,
    ⟨none, none, .store 17 (.t 4) (.t 25)⟩,
    ⟨(some 5), none, .mov (.c (.g (.bool true)))⟩]) <|
 .ret⟩
def h50 : List (List Nat) := [[2, 3, 4], [2, 3, 4, 6], [2, 4, 23], [4], [4, 5], [4, 5]]
theorem c50 : cFunc Try.prog 50 false h50 = some F50 := by kernel_rfl

/-- baton/batonref13.Gets -/
def F51 : IFunc := ⟨2, 27, [.cell 4 true 17, .tmp 5], false,
 .seq (.reg [2, 3, 4] [⟨(some 2), none, .box (.t 0)⟩,
    ⟨(some 3), none, .box (.t 1)⟩,
    ⟨(some 4), none, .alloc [.z (.bool false), .z (.int .i64 0), .z (.int .i64 0), .z (.int .i64 0), .z (.bool false), .z (.str []), .z (.str []), .z (.int .i64 0), .z (.int .i64 0), .z (.int .i64 0), .z (.int .i64 0), .s 5, .s 4, .s 4, .z (.int .i64 0), .z (.int .i64 0), .z (.int .i64 0)]⟩,
    ⟨(some 5), none, .mov (.c (.g (.bool false)))⟩]) <|
 .seq (.seq (.reg [2, 4, 24] [⟨(some 6), none, .faddr 0 (.t 2)⟩,
     ⟨(some 7), none, .load false 1 (.t 6)⟩,
     ⟨(some 8), none, .un .not (.t 7)⟩,
     ⟨(some 9), none, .mov (.t 8)⟩,
     ⟨(some 10), (some (9, false)), .faddr 1 (.t 3)⟩,
     ⟨(some 11), (some (9, false)), .load false 1 (.t 10)⟩,
     ⟨(some 12), (some (9, false)), .faddr 1 (.t 2)⟩,
     ⟨(some 13), (some (9, false)), .faddr 1 (.t 12)⟩,
     ⟨(some 14), (some (9, false)), .load false 1 (.t 13)⟩,
     ⟨(some 15), (some (9, false)), .bin .neq (.t 11) (.t 14)⟩,
     ⟨(some 16), none, .pick (.t 9) (.c (.g (.bool true))) (.t 15)⟩,
     ⟨(some 17), none, .mov (.t 16)⟩,
     ⟨(some 18), (some (17, false)), .faddr 2 (.t 3)⟩,
     ⟨(some 19), (some (17, false)), .load false 1 (.t 18)⟩,
     ⟨(some 20), (some (17, false)), .faddr 1 (.t 2)⟩,
     ⟨(some 21), (some (17, false)), .faddr 2 (.t 20)⟩,
     ⟨(some 22), (some (17, false)), .load false 1 (.t 21)⟩,
     ⟨(some 23), (some (17, false)), .bin .neq (.t 19) (.t 22)⟩,
     ⟨(some 24), none, .pick (.t 17) (.c (.g (.bool true))) (.t 23)⟩]) <|
  .cond [4] (.t 24)
   (.seq (.reg [4, 5] [⟨(some 25), none, .load true 17 (.t 2)⟩,
       ⟨none, none, .store 17 (.t 4) (.t 25)⟩,
       ⟨(some 5), none, .mov (.c (.g (.bool false)))⟩]) <|
    .ret)
   (.skip)) <|
 .seq (.reg [4, 5] [⟨(some 26), none, .build [.g (.bool false), .g (.int .i64 0), .g (.int .i64 0), .g (.int .i64 0), .g (.bool false), .g (.str []), .g (.str []), .g (.int .i64 0), .g (.int .i64 0), .g (.int .i64 0), .g (.int .i64 0), .g (.nsl), .g (.nsl), .g (.nsl), .g (.int .i64 0), .g (.int .i64 0), .g (.int .i64 0)] []⟩,
    ⟨none, none, .store 17 (.t 4) (.t 26)⟩,
    ⟨(some 5), none, .mov (.c (.g (.bool true)))⟩]) <|
 .ret⟩
def h51 : List (List Nat) := [[2, 3, 4], [2, 4, 24], [4], [4, 5], [4, 5]]
theorem c51 : cFunc Try.prog 51 false h51 = some F51 := by kernel_rfl

/-- baton/wire.MayAsk -/
def F52 : IFunc := ⟨1, 52, [.tmp 2], false,
 .seq (.reg [1] [⟨(some 1), none, .box (.t 0)⟩,
    ⟨(some 2), none, .mov (.c (.g (.bool false)))⟩]) <|
 .seq (.seq (.reg [1, 35] [⟨(some 3), none, .faddr 0 (.t 1)⟩,
     ⟨(some 4), none, .load false 1 (.t 3)⟩,
     ⟨(some 5), none, .bin .lss (.t 4) (.c (.g (.int .i64 1)))⟩,
     ⟨(some 6), none, .mov (.t 5)⟩,
     ⟨(some 7), (some (6, false)), .faddr 0 (.t 1)⟩,
     ⟨(some 8), (some (6, false)), .load false 1 (.t 7)⟩,
     ⟨(some 9), (some (6, false)), .bin .gtr (.t 8) (.c (.g (.int .i64 8)))⟩,
     ⟨(some 10), none, .pick (.t 6) (.c (.g (.bool true))) (.t 9)⟩,
     ⟨(some 11), none, .mov (.t 10)⟩,
     ⟨(some 12), (some (11, false)), .faddr 4 (.t 1)⟩,
     ⟨(some 13), (some (11, false)), .load false 1 (.t 12)⟩,
     ⟨(some 14), (some (11, false)), .faddr 5 (.t 1)⟩,
     ⟨(some 15), (some (11, false)), .load false 1 (.t 14)⟩,
     ⟨(some 16), (some (11, false)), .call (.c (.g (.fn 70))) [(.t 13), (.t 15)]⟩,
     ⟨(some 17), (some (11, false)), .un .not (.t 16)⟩,
     ⟨(some 18), none, .pick (.t 11) (.c (.g (.bool true))) (.t 17)⟩,
     ⟨(some 19), none, .mov (.t 18)⟩,
     ⟨(some 20), (some (19, false)), .faddr 1 (.t 1)⟩,
     ⟨(some 21), (some (19, false)), .load false 1 (.t 20)⟩,
     ⟨(some 22), (some (19, false)), .faddr 2 (.t 1)⟩,
     ⟨(some 23), (some (19, false)), .load false 1 (.t 22)⟩,
     ⟨(some 24), (some (19, false)), .faddr 6 (.t 1)⟩,
     ⟨(some 25), (some (19, false)), .load false 1 (.t 24)⟩,
     ⟨(some 26), (some (19, false)), .faddr 7 (.t 1)⟩,
     ⟨(some 27), (some (19, false)), .load false 1 (.t 26)⟩,
     ⟨(some 28), (some (19, false)), .faddr 8 (.t 1)⟩,
     ⟨(some 29), (some (19, false)), .load false 1 (.t 28)⟩,
     ⟨(some 30), (some (19, false)), .faddr 9 (.t 1)⟩,
     ⟨(some 31), (some (19, false)), .load false 1 (.t 30)⟩,
     ⟨(some 32), (some (19, false)), .bslice 1 6 [.int .i64 0] [(0, 1, (.t 21)), (1, 1, (.t 23)), (2, 1, (.t 25)), (3, 1, (.t 27)), (4, 1, (.t 29)), (5, 1, (.t 31))]⟩,
     ⟨(some 33), (some (19, false)), .call (.c (.g (.fn 71))) [(.t 32)]⟩,
     ⟨(some 34), (some (19, false)), .un .not (.t 33)⟩,
     ⟨(some 35), none, .pick (.t 19) (.c (.g (.bool true))) (.t 34)⟩]) <|
  .cond [1] (.t 35)
   (.seq (.reg [2] [⟨(some 2), none, .mov (.c (.g (.bool false)))⟩]) <|
    .ret)
   (.skip)) <|
 .seq (.reg [2] [⟨(some 36), none, .faddr 10 (.t 1)⟩,
    ⟨(some 37), none, .faddr 0 (.t 36)⟩,
    ⟨(some 38), none, .load false 1 (.t 37)⟩,
    ⟨(some 39), none, .call (.c (.g (.fn 72))) [(.t 38), (.c (.g (.int .i64 4))), (.c (.g (.fn 73)))]⟩,
    ⟨(some 40), none, .mov (.t 39)⟩,
    ⟨(some 41), (some (40, true)), .faddr 10 (.t 1)⟩,
    ⟨(some 42), (some (40, true)), .faddr 1 (.t 41)⟩,
    ⟨(some 43), (some (40, true)), .load false 1 (.t 42)⟩,
    ⟨(some 44), (some (40, true)), .call (.c (.g (.fn 74))) [(.t 43), (.c (.g (.int .i64 4))), (.c (.g (.fn 75)))]⟩,
    ⟨(some 45), none, .pick (.t 40) (.t 44) (.c (.g (.bool false)))⟩,
    ⟨(some 46), none, .mov (.t 45)⟩,
    ⟨(some 47), (some (46, true)), .faddr 10 (.t 1)⟩,
    ⟨(some 48), (some (46, true)), .faddr 2 (.t 47)⟩,
    ⟨(some 49), (some (46, true)), .load false 1 (.t 48)⟩,
    ⟨(some 50), (some (46, true)), .call (.c (.g (.fn 74))) [(.t 49), (.c (.g (.int .i64 4))), (.c (.g (.fn 75)))]⟩,
    ⟨(some 51), none, .pick (.t 46) (.t 50) (.c (.g (.bool false)))⟩,
    ⟨(some 2), none, .mov (.t 51)⟩]) <|
 .ret⟩
def h52 : List (List Nat) := [[1], [1, 35], [1], [2], [2]]
theorem c52 : cFunc Try.prog 52 false h52 = some F52 := by kernel_rfl

/-- baton/wire.Ask -/
def L53_0 : IC :=
 .seq (.reg [1, 4, 43, 44, 45, 46] [⟨(some 46), none, .bin .lss (.t 45) (.t 44)⟩]) <|
 .seq (.cond [1, 4, 43, 44, 45] (.t 46)
   (.skip)
   (.exit 0)) <|
 .seq (.block [1, 4, 43, 44, 45] 1 <|
  .seq (.reg [1, 4, 6, 43, 44, 45] [⟨(some 47), none, .iaddr 5 (.t 43) (.t 45)⟩,
     ⟨(some 48), none, .load true 5 (.t 47)⟩,
     ⟨(some 6), none, .alloc [.z (.str []), .z (.int .i64 0), .z (.int .i64 0), .z (.int .i64 0), .z (.str [])]⟩,
     ⟨none, none, .store 5 (.t 6) (.t 48)⟩]) <|
  .seq (.reg [1, 4, 6, 43, 44, 45] [⟨(some 49), none, .faddr 0 (.t 6)⟩,
     ⟨(some 50), none, .load false 1 (.t 49)⟩,
     ⟨(some 51), none, .bslice 1 1 [.str []] [(0, 1, (.t 50))]⟩,
     ⟨(some 52), none, .call (.c (.g (.fn 78))) [(.t 4), (.t 51)]⟩]) <|
  .seq (.reg [1, 4, 6, 43, 44, 45] [⟨(some 53), none, .faddr 1 (.t 6)⟩,
     ⟨(some 54), none, .load false 1 (.t 53)⟩,
     ⟨(some 55), none, .faddr 2 (.t 6)⟩,
     ⟨(some 56), none, .load false 1 (.t 55)⟩,
     ⟨(some 57), none, .faddr 3 (.t 6)⟩,
     ⟨(some 58), none, .load false 1 (.t 57)⟩,
     ⟨(some 59), none, .bslice 1 3 [.int .i64 0] [(0, 1, (.t 54)), (1, 1, (.t 56)), (2, 1, (.t 58))]⟩,
     ⟨(some 60), none, .call (.c (.g (.fn 76))) [(.t 4), (.t 59)]⟩]) <|
  .reg [1, 4, 43, 44, 45] [⟨(some 61), none, .faddr 4 (.t 6)⟩,
    ⟨(some 62), none, .load false 1 (.t 61)⟩,
    ⟨(some 63), none, .bslice 1 1 [.str []] [(0, 1, (.t 62))]⟩,
    ⟨(some 64), none, .call (.c (.g (.fn 78))) [(.t 4), (.t 63)]⟩]) <|
 .reg [1, 4, 43, 44, 45] [⟨(some 65), none, .bin .add (.t 45) (.c (.g (.int .i64 1)))⟩,
   ⟨(some 45), none, .mov (.t 65)⟩]
def F53 : IFunc := ⟨1, 76, [.tmp 2, .tmp 3], false,
 .seq (.reg [1] [⟨(some 1), none, .box (.t 0)⟩,
    ⟨(some 2), none, .mov (.c (.g (.str [])))⟩,
    ⟨(some 3), none, .mov (.c (.g (.bool false)))⟩]) <|
 .seq (.seq (.reg [1, 9] [⟨(some 7), none, .load true 13 (.t 1)⟩,
     ⟨(some 8), none, .call (.c (.g (.fn 52))) [(.t 7)]⟩,
     ⟨(some 9), none, .un .not (.t 8)⟩]) <|
  .cond [1] (.t 9)
   (.seq (.reg [2, 3] [⟨(some 2), none, .mov (.c (.g (.str [])))⟩,
       ⟨(some 3), none, .mov (.c (.g (.bool false)))⟩]) <|
    .ret)
   (.skip)) <|
 .seq (.reg [1, 4] [⟨(some 4), none, .allocT 115 5 [.z (.nptr), .s 1]⟩]) <|
 .seq (.reg [1, 4] [⟨(some 10), none, .faddr 0 (.t 1)⟩,
    ⟨(some 11), none, .load false 1 (.t 10)⟩,
    ⟨(some 12), none, .faddr 1 (.t 1)⟩,
    ⟨(some 13), none, .load false 1 (.t 12)⟩,
    ⟨(some 14), none, .faddr 2 (.t 1)⟩,
    ⟨(some 15), none, .load false 1 (.t 14)⟩,
    ⟨(some 16), none, .bslice 1 4 [.int .i64 0] [(0, 1, (.c (.g (.int .i64 1)))), (1, 1, (.t 11)), (2, 1, (.t 13)), (3, 1, (.t 15))]⟩,
    ⟨(some 17), none, .call (.c (.g (.fn 76))) [(.t 4), (.t 16)]⟩]) <|
 .seq (.reg [1, 4] [⟨(some 18), none, .faddr 3 (.t 1)⟩,
    ⟨(some 19), none, .load false 1 (.t 18)⟩,
    ⟨(some 20), none, .call (.c (.g (.fn 77))) [(.t 4), (.t 19)]⟩]) <|
 .seq (.reg [1, 4] [⟨(some 21), none, .faddr 4 (.t 1)⟩,
    ⟨(some 22), none, .load false 1 (.t 21)⟩,
    ⟨(some 23), none, .faddr 5 (.t 1)⟩,
    ⟨(some 24), none, .load false 1 (.t 23)⟩,
    ⟨(some 25), none, .bslice 1 2 [.str []] [(0, 1, (.t 22)), (1, 1, (.t 24))]⟩,
    ⟨(some 26), none, .call (.c (.g (.fn 78))) [(.t 4), (.t 25)]⟩]) <|
 .seq (.reg [1, 4] [⟨(some 27), none, .faddr 6 (.t 1)⟩,
    ⟨(some 28), none, .load false 1 (.t 27)⟩,
    ⟨(some 29), none, .faddr 7 (.t 1)⟩,
    ⟨(some 30), none, .load false 1 (.t 29)⟩,
    ⟨(some 31), none, .faddr 8 (.t 1)⟩,
    ⟨(some 32), none, .load false 1 (.t 31)⟩,
    ⟨(some 33), none, .faddr 9 (.t 1)⟩,
    ⟨(some 34), none, .load false 1 (.t 33)⟩,
    ⟨(some 35), none, .faddr 10 (.t 1)⟩,
    ⟨(some 36), none, .faddr 0 (.t 35)⟩,
    ⟨(some 37), none, .load false 1 (.t 36)⟩,
    ⟨(some 38), none, .len (.t 37)⟩,
    ⟨(some 39), none, .bslice 1 5 [.int .i64 0] [(0, 1, (.t 28)), (1, 1, (.t 30)), (2, 1, (.t 32)), (3, 1, (.t 34)), (4, 1, (.t 38))]⟩,
    ⟨(some 40), none, .call (.c (.g (.fn 76))) [(.t 4), (.t 39)]⟩]) <|
 .seq (.seq (.reg [1, 4, 43, 44, 45] [⟨(some 41), none, .faddr 10 (.t 1)⟩,
     ⟨(some 42), none, .faddr 0 (.t 41)⟩,
     ⟨(some 43), none, .load false 1 (.t 42)⟩,
     ⟨(some 44), none, .len (.t 43)⟩,
     ⟨(some 45), none, .mov (.c (.g (.int .i64 0)))⟩]) <|
  .block [1, 4] 0 <|
  .loop [1, 4, 43, 44, 45] [] L53_0) <|
 .seq (.reg [1, 4] [⟨(some 66), none, .faddr 10 (.t 1)⟩,
    ⟨(some 67), none, .faddr 1 (.t 66)⟩,
    ⟨(some 68), none, .load false 1 (.t 67)⟩,
    ⟨(some 69), none, .call (.c (.g (.fn 79))) [(.t 4), (.t 68)]⟩]) <|
 .seq (.reg [4] [⟨(some 70), none, .faddr 10 (.t 1)⟩,
    ⟨(some 71), none, .faddr 2 (.t 70)⟩,
    ⟨(some 72), none, .load false 1 (.t 71)⟩,
    ⟨(some 73), none, .call (.c (.g (.fn 79))) [(.t 4), (.t 72)]⟩]) <|
 .seq (.reg [2, 3] [⟨(some 74), none, .faddr 0 (.t 4)⟩,
    ⟨(some 75), none, .call (.c (.g (.fn 80))) [(.t 74)]⟩,
    ⟨(some 2), none, .mov (.t 75)⟩,
    ⟨(some 3), none, .mov (.c (.g (.bool true)))⟩]) <|
 .ret⟩
def h53 : List (List Nat) := [[1], [1, 9], [1], [2, 3], [1, 4], [1, 4], [1, 4], [1, 4], [1, 4], [1, 4, 43, 44, 45], [1, 4], [1, 4, 43, 44, 45], [1, 4, 43, 44, 45, 46], [1, 4, 43, 44, 45], [1, 4, 43, 44, 45], [1, 4, 6, 43, 44, 45], [1, 4, 6, 43, 44, 45], [1, 4, 6, 43, 44, 45], [1, 4, 43, 44, 45], [1, 4, 43, 44, 45], [1, 4], [4], [2, 3]]
theorem c53 : cFunc Try.prog 53 false h53 = some F53 := by kernel_rfl

/-- baton/batonref03.Same -/
def L54_0 : IC :=
 .seq (.seq (.reg [2, 3, 5, 90] [⟨(some 85), none, .mov (.t 5)⟩,
     ⟨(some 86), none, .faddr 10 (.t 2)⟩,
     ⟨(some 87), none, .faddr 0 (.t 86)⟩,
     ⟨(some 88), none, .load false 1 (.t 87)⟩,
     ⟨(some 89), none, .len (.t 88)⟩,
     ⟨(some 90), none, .bin .lss (.t 85) (.t 89)⟩]) <|
  .cond [2, 3, 5] (.t 90)
   (.skip)
   (.exit 0)) <|
 .seq (.block [2, 3, 5] 1 <|
  .seq (.drw [2, 3, 5, 105] 0 <|
   .take ⟨(some 93), none, .faddr 10 (.t 2)⟩ <|
   .take ⟨(some 94), none, .faddr 0 (.t 93)⟩ <|
   .take ⟨(some 95), none, .load false 1 (.t 94)⟩ <|
   .take ⟨(some 96), none, .mov (.t 5)⟩ <|
   .take ⟨(some 97), none, .iaddr 5 (.t 95) (.t 96)⟩ <|
   .take ⟨(some 98), none, .load true 5 (.t 97)⟩ <|
   .take ⟨(some 99), none, .faddr 10 (.t 3)⟩ <|
   .take ⟨(some 100), none, .faddr 0 (.t 99)⟩ <|
   .take ⟨(some 101), none, .load false 1 (.t 100)⟩ <|
   .take ⟨(some 102), none, .mov (.t 5)⟩ <|
   .take ⟨(some 103), none, .iaddr 5 (.t 101) (.t 102)⟩ <|
   .take ⟨(some 104), none, .load true 5 (.t 103)⟩ <|
   .take ⟨(some 105), none, .eqs true true [.s, .i, .i, .i, .s] (.t 98) (.t 104)⟩ <|
   .leaf) <|
  .cond [2, 3, 5] (.t 105)
   (.seq (.reg [4] [⟨(some 4), none, .mov (.c (.g (.bool false)))⟩]) <|
    .ret)
   (.skip)) <|
 .reg [2, 3, 5] [⟨(some 91), none, .mov (.t 5)⟩,
   ⟨(some 92), none, .bin .add (.t 91) (.c (.g (.int .i64 1)))⟩,
   ⟨(some 5), none, .mov (.t 92)⟩]
def F54 : IFunc := ⟨2, 122, [.tmp 4], false,
 .seq (.reg [2, 3] [⟨(some 2), none, .box (.t 0)⟩,
    ⟨(some 3), none, .box (.t 1)⟩,
    ⟨(some 4), none, .mov (.c (.g (.bool false)))⟩]) <|
 .seq (.seq (.reg [2, 3, 84] [⟨(some 6), none, .faddr 0 (.t 2)⟩,
     ⟨(some 7), none, .load false 1 (.t 6)⟩,
     ⟨(some 8), none, .faddr 0 (.t 3)⟩,
     ⟨(some 9), none, .load false 1 (.t 8)⟩,
     ⟨(some 10), none, .bin .neq (.t 7) (.t 9)⟩,
     ⟨(some 11), none, .mov (.t 10)⟩,
     ⟨(some 12), (some (11, false)), .faddr 1 (.t 2)⟩,
     ⟨(some 13), (some (11, false)), .load false 1 (.t 12)⟩,
     ⟨(some 14), (some (11, false)), .faddr 1 (.t 3)⟩,
     ⟨(some 15), (some (11, false)), .load false 1 (.t 14)⟩,
     ⟨(some 16), (some (11, false)), .bin .neq (.t 13) (.t 15)⟩,
     ⟨(some 17), none, .pick (.t 11) (.c (.g (.bool true))) (.t 16)⟩,
     ⟨(some 18), none, .mov (.t 17)⟩,
     ⟨(some 19), (some (18, false)), .faddr 2 (.t 2)⟩,
     ⟨(some 20), (some (18, false)), .load false 1 (.t 19)⟩,
     ⟨(some 21), (some (18, false)), .faddr 2 (.t 3)⟩,
     ⟨(some 22), (some (18, false)), .load false 1 (.t 21)⟩,
     ⟨(some 23), (some (18, false)), .bin .neq (.t 20) (.t 22)⟩,
     ⟨(some 24), none, .pick (.t 18) (.c (.g (.bool true))) (.t 23)⟩,
     ⟨(some 25), none, .mov (.t 24)⟩,
     ⟨(some 26), (some (25, false)), .faddr 3 (.t 2)⟩,
     ⟨(some 27), (some (25, false)), .load false 1 (.t 26)⟩,
     ⟨(some 28), (some (25, false)), .faddr 3 (.t 3)⟩,
     ⟨(some 29), (some (25, false)), .load false 1 (.t 28)⟩,
     ⟨(some 30), (some (25, false)), .eqs true false [.b] (.t 27) (.t 29)⟩,
     ⟨(some 31), none, .pick (.t 25) (.c (.g (.bool true))) (.t 30)⟩,
     ⟨(some 32), none, .mov (.t 31)⟩,
     ⟨(some 33), (some (32, false)), .faddr 4 (.t 2)⟩,
     ⟨(some 34), (some (32, false)), .load false 1 (.t 33)⟩,
     ⟨(some 35), (some (32, false)), .faddr 4 (.t 3)⟩,
     ⟨(some 36), (some (32, false)), .load false 1 (.t 35)⟩,
     ⟨(some 37), (some (32, false)), .bin .neq (.t 34) (.t 36)⟩,
     ⟨(some 38), none, .pick (.t 32) (.c (.g (.bool true))) (.t 37)⟩,
     ⟨(some 39), none, .mov (.t 38)⟩,
     ⟨(some 40), (some (39, false)), .faddr 5 (.t 2)⟩,
     ⟨(some 41), (some (39, false)), .load false 1 (.t 40)⟩,
     ⟨(some 42), (some (39, false)), .faddr 5 (.t 3)⟩,
     ⟨(some 43), (some (39, false)), .load false 1 (.t 42)⟩,
     ⟨(some 44), (some (39, false)), .bin .neq (.t 41) (.t 43)⟩,
     ⟨(some 45), none, .pick (.t 39) (.c (.g (.bool true))) (.t 44)⟩,
     ⟨(some 46), none, .mov (.t 45)⟩,
     ⟨(some 47), (some (46, false)), .faddr 6 (.t 2)⟩,
     ⟨(some 48), (some (46, false)), .load false 1 (.t 47)⟩,
     ⟨(some 49), (some (46, false)), .faddr 6 (.t 3)⟩,
     ⟨(some 50), (some (46, false)), .load false 1 (.t 49)⟩,
     ⟨(some 51), (some (46, false)), .bin .neq (.t 48) (.t 50)⟩,
     ⟨(some 52), none, .pick (.t 46) (.c (.g (.bool true))) (.t 51)⟩,
     ⟨(some 53), none, .mov (.t 52)⟩,
     ⟨(some 54), (some (53, false)), .faddr 7 (.t 2)⟩,
     ⟨(some 55), (some (53, false)), .load false 1 (.t 54)⟩,
     ⟨(some 56), (some (53, false)), .faddr 7 (.t 3)⟩,
     ⟨(some 57), (some (53, false)), .load false 1 (.t 56)⟩,
     ⟨(some 58), (some (53, false)), .bin .neq (.t 55) (.t 57)⟩,
     ⟨(some 59), none, .pick (.t 53) (.c (.g (.bool true))) (.t 58)⟩,
     ⟨(some 60), none, .mov (.t 59)⟩,
     ⟨(some 61), (some (60, false)), .faddr 8 (.t 2)⟩,
     ⟨(some 62), (some (60, false)), .load false 1 (.t 61)⟩,
     ⟨(some 63), (some (60, false)), .faddr 8 (.t 3)⟩,
     ⟨(some 64), (some (60, false)), .load false 1 (.t 63)⟩,
     ⟨(some 65), (some (60, false)), .bin .neq (.t 62) (.t 64)⟩,
     ⟨(some 66), none, .pick (.t 60) (.c (.g (.bool true))) (.t 65)⟩,
     ⟨(some 67), none, .mov (.t 66)⟩,
     ⟨(some 68), (some (67, false)), .faddr 9 (.t 2)⟩,
     ⟨(some 69), (some (67, false)), .load false 1 (.t 68)⟩,
     ⟨(some 70), (some (67, false)), .faddr 9 (.t 3)⟩,
     ⟨(some 71), (some (67, false)), .load false 1 (.t 70)⟩,
     ⟨(some 72), (some (67, false)), .bin .neq (.t 69) (.t 71)⟩,
     ⟨(some 73), none, .pick (.t 67) (.c (.g (.bool true))) (.t 72)⟩,
     ⟨(some 74), none, .mov (.t 73)⟩,
     ⟨(some 75), (some (74, false)), .faddr 10 (.t 2)⟩,
     ⟨(some 76), (some (74, false)), .faddr 0 (.t 75)⟩,
     ⟨(some 77), (some (74, false)), .load false 1 (.t 76)⟩,
     ⟨(some 78), (some (74, false)), .len (.t 77)⟩,
     ⟨(some 79), (some (74, false)), .faddr 10 (.t 3)⟩,
     ⟨(some 80), (some (74, false)), .faddr 0 (.t 79)⟩,
     ⟨(some 81), (some (74, false)), .load false 1 (.t 80)⟩,
     ⟨(some 82), (some (74, false)), .len (.t 81)⟩,
     ⟨(some 83), (some (74, false)), .bin .neq (.t 78) (.t 82)⟩,
     ⟨(some 84), none, .pick (.t 74) (.c (.g (.bool true))) (.t 83)⟩]) <|
  .cond [2, 3] (.t 84)
   (.seq (.reg [4] [⟨(some 4), none, .mov (.c (.g (.bool false)))⟩]) <|
    .ret)
   (.skip)) <|
 .seq (.seq (.reg [2, 3, 5] [⟨(some 5), none, .mov (.c (.g (.int .i64 0)))⟩]) <|
  .block [2, 3] 0 <|
  .loop [2, 3, 5] [] L54_0) <|
 .seq (.reg [4] [⟨(some 106), none, .faddr 10 (.t 2)⟩,
    ⟨(some 107), none, .faddr 1 (.t 106)⟩,
    ⟨(some 108), none, .load false 1 (.t 107)⟩,
    ⟨(some 109), none, .faddr 10 (.t 3)⟩,
    ⟨(some 110), none, .faddr 1 (.t 109)⟩,
    ⟨(some 111), none, .load false 1 (.t 110)⟩,
    ⟨(some 112), none, .call (.c (.g (.fn 32))) [(.t 108), (.t 111)]⟩,
    ⟨(some 113), none, .mov (.t 112)⟩,
    ⟨(some 114), (some (113, true)), .faddr 10 (.t 2)⟩,
    ⟨(some 115), (some (113, true)), .faddr 2 (.t 114)⟩,
    ⟨(some 116), (some (113, true)), .load false 1 (.t 115)⟩,
    ⟨(some 117), (some (113, true)), .faddr 10 (.t 3)⟩,
    ⟨(some 118), (some (113, true)), .faddr 2 (.t 117)⟩,
    ⟨(some 119), (some (113, true)), .load false 1 (.t 118)⟩,
    ⟨(some 120), (some (113, true)), .call (.c (.g (.fn 32))) [(.t 116), (.t 119)]⟩,
    ⟨(some 121), none, .pick (.t 113) (.t 120) (.c (.g (.bool false)))⟩,
    ⟨(some 4), none, .mov (.t 121)⟩]) <|
 .ret⟩
def h54 : List (List Nat) := [[2, 3], [2, 3, 84], [2, 3], [4], [2, 3, 5], [2, 3], [2, 3, 5], [2, 3, 5, 90], [2, 3, 5], [2, 3, 5], [2, 3, 5, 105], [], [2, 3, 5], [4], [2, 3, 5], [4]]
theorem c54 : cFunc Try.prog 54 false h54 = some F54 := by kernel_rfl

/-- baton/batonlaw14.live -/
def F55 : IFunc := ⟨0, 100, [.tmp 0], false,
 .seq (.reg [] [⟨(some 0), none, .mov (.c (.g (.bool false)))⟩]) <|
 .seq (.reg [1, 2] [⟨(some 10), none, .build [.g (.int .i64 0), .g (.int .i64 0), .g (.int .i64 0), .g (.int .i64 0), .g (.int .i64 0), .g (.int .i64 0), .g (.bool false), .g (.nsl), .g (.nsl)] [(4, 1, (.c (.g (.int .i64 7)))), (5, 1, (.c (.g (.int .i64 34))))]⟩,
    ⟨(some 11), none, .call (.c (.g (.fn 56))) [(.c (.g (.int .i64 100))), (.t 10)]⟩,
    ⟨(some 9), none, .mov (.t 11)⟩,
    ⟨(some 12), none, .ext 0 (.t 9)⟩,
    ⟨(some 13), none, .ext 1 (.t 9)⟩,
    ⟨(some 1), none, .alloc [.z (.int .i64 0), .z (.int .i64 0), .z (.int .i64 0), .z (.int .i64 0)]⟩,
    ⟨none, none, .store 4 (.t 1) (.t 12)⟩,
    ⟨(some 2), none, .mov (.t 13)⟩]) <|
 .seq (.reg [1, 2, 4] [⟨(some 15), none, .build [.g (.int .i64 0), .g (.int .i64 0), .g (.int .i64 0), .g (.int .i64 0), .g (.int .i64 0), .g (.int .i64 0), .g (.bool false), .g (.nsl), .g (.nsl)] [(4, 1, (.c (.g (.int .i64 7)))), (5, 1, (.c (.g (.int .i64 1))))]⟩,
    ⟨(some 16), none, .call (.c (.g (.fn 56))) [(.c (.g (.int .i64 100))), (.t 15)]⟩,
    ⟨(some 14), none, .mov (.t 16)⟩,
    ⟨(some 17), none, .ext 0 (.t 14)⟩,
    ⟨(some 18), none, .ext 1 (.t 14)⟩,
    ⟨(some 3), none, .alloc [.z (.int .i64 0), .z (.int .i64 0), .z (.int .i64 0), .z (.int .i64 0)]⟩,
    ⟨none, none, .store 4 (.t 3) (.t 17)⟩,
    ⟨(some 4), none, .mov (.t 18)⟩]) <|
 .seq (.reg [1, 2, 4, 5] [⟨(some 19), none, .load true 4 (.t 1)⟩,
    ⟨(some 20), none, .build [.g (.int .i64 0), .g (.int .i64 0), .g (.int .i64 0), .g (.int .i64 0), .g (.int .i64 0), .g (.int .i64 0), .g (.bool false), .g (.nsl), .g (.nsl)] [(4, 1, (.c (.g (.int .i64 7)))), (5, 1, (.c (.g (.int .i64 34))))]⟩,
    ⟨(some 21), none, .call (.c (.g (.fn 58))) [(.t 19), (.c (.g (.int .i64 120))), (.t 20)]⟩,
    ⟨(some 5), none, .alloc [.z (.int .i64 0), .z (.int .i64 0), .z (.int .i64 0), .z (.int .i64 0)]⟩,
    ⟨none, none, .store 4 (.t 5) (.t 21)⟩]) <|
 .seq (.reg [1, 2, 4, 5, 6] [⟨(some 22), none, .load true 4 (.t 5)⟩,
    ⟨(some 23), none, .build [.g (.int .i64 0), .g (.int .i64 0), .g (.int .i64 0), .g (.int .i64 0), .g (.int .i64 0), .g (.int .i64 0), .g (.bool false), .g (.nsl), .g (.nsl)] [(4, 1, (.c (.g (.int .i64 7)))), (5, 1, (.c (.g (.int .i64 34))))]⟩,
    ⟨(some 24), none, .call (.c (.g (.fn 58))) [(.t 22), (.c (.g (.int .i64 90))), (.t 23)]⟩,
    ⟨(some 6), none, .alloc [.z (.int .i64 0), .z (.int .i64 0), .z (.int .i64 0), .z (.int .i64 0)]⟩,
    ⟨none, none, .store 4 (.t 6) (.t 24)⟩]) <|
 .seq (.reg [1, 2, 4, 5, 6, 7] [⟨(some 25), none, .load true 4 (.t 5)⟩,
    ⟨(some 26), none, .build [.g (.int .i64 0), .g (.int .i64 0), .g (.int .i64 0), .g (.int .i64 0), .g (.int .i64 0), .g (.int .i64 0), .g (.bool false), .g (.nsl), .g (.nsl)] [(0, 1, (.c (.g (.int .i64 6))))]⟩,
    ⟨(some 27), none, .call (.c (.g (.fn 58))) [(.t 25), (.c (.g (.int .i64 130))), (.t 26)]⟩,
    ⟨(some 7), none, .alloc [.z (.int .i64 0), .z (.int .i64 0), .z (.int .i64 0), .z (.int .i64 0)]⟩,
    ⟨none, none, .store 4 (.t 7) (.t 27)⟩]) <|
 .seq (.reg [1, 2, 4, 5, 6, 7, 8] [⟨(some 28), none, .load true 4 (.t 5)⟩,
    ⟨(some 29), none, .build [.g (.int .i64 0), .g (.int .i64 0), .g (.int .i64 0), .g (.int .i64 0), .g (.int .i64 0), .g (.int .i64 0), .g (.bool false), .g (.nsl), .g (.nsl)] [(4, 1, (.c (.g (.int .i64 8))))]⟩,
    ⟨(some 30), none, .call (.c (.g (.fn 58))) [(.t 28), (.c (.g (.int .i64 130))), (.t 29)]⟩,
    ⟨(some 8), none, .alloc [.z (.int .i64 0), .z (.int .i64 0), .z (.int .i64 0), .z (.int .i64 0)]⟩,
    ⟨none, none, .store 4 (.t 8) (.t 30)⟩]) <|
 .seq (.reg [0] [⟨(some 31), none, .mov (.t 2)⟩,
    ⟨(some 32), none, .mov (.t 31)⟩,
    ⟨(some 33), (some (32, true)), .load true 4 (.t 1)⟩,
    ⟨(some 34), (some (32, true)), .build [.g (.int .i64 0), .g (.int .i64 0), .g (.int .i64 0), .g (.int .i64 0)] [(0, 1, (.c (.g (.int .i64 7)))), (1, 1, (.c (.g (.int .i64 34)))), (2, 1, (.c (.g (.int .i64 130)))), (3, 1, (.c (.g (.int .i64 115))))]⟩,
    ⟨(some 35), (some (32, true)), .eqs false true [.i, .i, .i, .i] (.t 33) (.t 34)⟩,
    ⟨(some 36), none, .pick (.t 32) (.t 35) (.c (.g (.bool false)))⟩,
    ⟨(some 37), none, .mov (.t 36)⟩,
    ⟨(some 38), (some (37, true)), .mov (.t 4)⟩,
    ⟨(some 39), (some (37, true)), .un .not (.t 38)⟩,
    ⟨(some 40), none, .pick (.t 37) (.t 39) (.c (.g (.bool false)))⟩,
    ⟨(some 41), none, .mov (.t 40)⟩,
    ⟨(some 42), (some (41, true)), .faddr 2 (.t 5)⟩,
    ⟨(some 43), (some (41, true)), .load false 1 (.t 42)⟩,
    ⟨(some 44), (some (41, true)), .bin .eql (.t 43) (.c (.g (.int .i64 150)))⟩,
    ⟨(some 45), none, .pick (.t 41) (.t 44) (.c (.g (.bool false)))⟩,
    ⟨(some 46), none, .mov (.t 45)⟩,
    ⟨(some 47), (some (46, true)), .faddr 3 (.t 5)⟩,
    ⟨(some 48), (some (46, true)), .load false 1 (.t 47)⟩,
    ⟨(some 49), (some (46, true)), .bin .eql (.t 48) (.c (.g (.int .i64 135)))⟩,
    ⟨(some 50), none, .pick (.t 46) (.t 49) (.c (.g (.bool false)))⟩,
    ⟨(some 51), none, .mov (.t 50)⟩,
    ⟨(some 52), (some (51, true)), .load true 4 (.t 6)⟩,
    ⟨(some 53), (some (51, true)), .load true 4 (.t 5)⟩,
    ⟨(some 54), (some (51, true)), .eqs false true [.i, .i, .i, .i] (.t 52) (.t 53)⟩,
    ⟨(some 55), none, .pick (.t 51) (.t 54) (.c (.g (.bool false)))⟩,
    ⟨(some 56), none, .mov (.t 55)⟩,
    ⟨(some 57), (some (56, true)), .load true 4 (.t 7)⟩,
    ⟨(some 58), (some (56, true)), .build [.g (.int .i64 0), .g (.int .i64 0), .g (.int .i64 0), .g (.int .i64 0)] []⟩,
    ⟨(some 59), (some (56, true)), .eqs false true [.i, .i, .i, .i] (.t 57) (.t 58)⟩,
    ⟨(some 60), none, .pick (.t 56) (.t 59) (.c (.g (.bool false)))⟩,
    ⟨(some 61), none, .mov (.t 60)⟩,
    ⟨(some 62), (some (61, true)), .load true 4 (.t 8)⟩,
    ⟨(some 63), (some (61, true)), .load true 4 (.t 5)⟩,
    ⟨(some 64), (some (61, true)), .eqs false true [.i, .i, .i, .i] (.t 62) (.t 63)⟩,
    ⟨(some 65), none, .pick (.t 61) (.t 64) (.c (.g (.bool false)))⟩,
    ⟨(some 66), none, .mov (.t 65)⟩,
    ⟨(some 67), (some (66, true)), .load true 4 (.t 1)⟩,
    ⟨(some 68), (some (66, true)), .call (.c (.g (.fn 59))) [(.t 67), (.c (.g (.int .i64 129)))]⟩,
    ⟨(some 69), none, .pick (.t 66) (.t 68) (.c (.g (.bool false)))⟩,
    ⟨(some 70), none, .mov (.t 69)⟩,
    ⟨(some 71), (some (70, true)), .load true 4 (.t 1)⟩,
    ⟨(some 72), (some (70, true)), .call (.c (.g (.fn 59))) [(.t 71), (.c (.g (.int .i64 130)))]⟩,
    ⟨(some 73), (some (70, true)), .un .not (.t 72)⟩,
    ⟨(some 74), none, .pick (.t 70) (.t 73) (.c (.g (.bool false)))⟩,
    ⟨(some 75), none, .mov (.t 74)⟩,
    ⟨(some 76), (some (75, true)), .load true 4 (.t 1)⟩,
    ⟨(some 77), (some (75, true)), .call (.c (.g (.fn 81))) [(.t 76), (.c (.g (.int .i64 115)))]⟩,
    ⟨(some 78), none, .pick (.t 75) (.t 77) (.c (.g (.bool false)))⟩,
    ⟨(some 79), none, .mov (.t 78)⟩,
    ⟨(some 80), (some (79, true)), .load true 4 (.t 1)⟩,
    ⟨(some 81), (some (79, true)), .call (.c (.g (.fn 81))) [(.t 80), (.c (.g (.int .i64 114)))]⟩,
    ⟨(some 82), (some (79, true)), .un .not (.t 81)⟩,
    ⟨(some 83), none, .pick (.t 79) (.t 82) (.c (.g (.bool false)))⟩,
    ⟨(some 84), none, .mov (.t 83)⟩,
    ⟨(some 85), (some (84, true)), .load true 4 (.t 1)⟩,
    ⟨(some 86), (some (84, true)), .call (.c (.g (.fn 81))) [(.t 85), (.c (.g (.int .i64 130)))]⟩,
    ⟨(some 87), (some (84, true)), .un .not (.t 86)⟩,
    ⟨(some 88), none, .pick (.t 84) (.t 87) (.c (.g (.bool false)))⟩,
    ⟨(some 89), none, .mov (.t 88)⟩,
    ⟨(some 90), (some (89, true)), .call (.c (.g (.fn 82))) [(.c (.g (.int .i64 9)))]⟩,
    ⟨(some 91), (some (89, true)), .field false 8 1 (.t 90)⟩,
    ⟨(some 92), (some (89, true)), .bin .eql (.t 91) (.c (.g (.int .i64 9)))⟩,
    ⟨(some 93), none, .pick (.t 89) (.t 92) (.c (.g (.bool false)))⟩,
    ⟨(some 94), none, .mov (.t 93)⟩,
    ⟨(some 95), (some (94, true)), .load true 4 (.t 1)⟩,
    ⟨(some 96), (some (94, true)), .call (.c (.g (.fn 83))) [(.t 95)]⟩,
    ⟨(some 97), (some (94, true)), .field false 6 1 (.t 96)⟩,
    ⟨(some 98), (some (94, true)), .bin .eql (.t 97) (.c (.g (.int .i64 7)))⟩,
    ⟨(some 99), none, .pick (.t 94) (.t 98) (.c (.g (.bool false)))⟩,
    ⟨(some 0), none, .mov (.t 99)⟩]) <|
 .ret⟩
def h55 : List (List Nat) := [[], [1, 2], [1, 2, 4], [1, 2, 4, 5], [1, 2, 4, 5, 6], [1, 2, 4, 5, 6, 7], [1, 2, 4, 5, 6, 7, 8], [0]]
theorem c55 : cFunc Try.prog 55 false h55 = some F55 := by kernel_rfl

/-- baton/sess.Begin -/
def F56 : IFunc := ⟨2, 38, [.cell 4 true 4, .tmp 5], false,
 .seq (.reg [0, 3, 4] [⟨(some 3), none, .box (.t 1)⟩,
    ⟨(some 4), none, .alloc [.z (.int .i64 0), .z (.int .i64 0), .z (.int .i64 0), .z (.int .i64 0)]⟩,
    ⟨(some 5), none, .mov (.c (.g (.bool false)))⟩]) <|
 .seq (.reg [0, 3, 4, 6] [⟨(some 7), none, .faddr 5 (.t 3)⟩,
    ⟨(some 8), none, .load false 1 (.t 7)⟩,
    ⟨(some 9), none, .mov (.t 0)⟩,
    ⟨(some 10), none, .call (.c (.g (.fn 84))) [(.t 8), (.t 9)]⟩,
    ⟨(some 6), none, .alloc [.z (.int .i64 0), .z (.int .i64 0)]⟩,
    ⟨none, none, .store 2 (.t 6) (.t 10)⟩]) <|
 .seq (.seq (.reg [0, 3, 4, 6, 23] [⟨(some 11), none, .faddr 0 (.t 3)⟩,
     ⟨(some 12), none, .load false 1 (.t 11)⟩,
     ⟨(some 13), none, .bin .neq (.t 12) (.c (.g (.int .i64 0)))⟩,
     ⟨(some 14), none, .mov (.t 13)⟩,
     ⟨(some 15), (some (14, false)), .faddr 4 (.t 3)⟩,
     ⟨(some 16), (some (14, false)), .load false 1 (.t 15)⟩,
     ⟨(some 17), (some (14, false)), .bin .lss (.t 16) (.c (.g (.int .i64 1)))⟩,
     ⟨(some 18), none, .pick (.t 14) (.c (.g (.bool true))) (.t 17)⟩,
     ⟨(some 19), none, .mov (.t 18)⟩,
     ⟨(some 20), (some (19, false)), .load true 2 (.t 6)⟩,
     ⟨(some 21), (some (19, false)), .call (.c (.g (.fn 85))) [(.t 20)]⟩,
     ⟨(some 22), (some (19, false)), .un .not (.t 21)⟩,
     ⟨(some 23), none, .pick (.t 19) (.c (.g (.bool true))) (.t 22)⟩]) <|
  .cond [0, 3, 4, 6] (.t 23)
   (.seq (.reg [4, 5] [⟨(some 24), none, .build [.g (.int .i64 0), .g (.int .i64 0), .g (.int .i64 0), .g (.int .i64 0)] []⟩,
       ⟨none, none, .store 4 (.t 4) (.t 24)⟩,
       ⟨(some 5), none, .mov (.c (.g (.bool false)))⟩]) <|
    .ret)
   (.skip)) <|
 .seq (.drw [4, 5] 0 <|
  .take ⟨(some 25), none, .faddr 4 (.t 3)⟩ <|
  .take ⟨(some 26), none, .load false 1 (.t 25)⟩ <|
  .take ⟨(some 27), none, .faddr 5 (.t 3)⟩ <|
  .take ⟨(some 28), none, .load false 1 (.t 27)⟩ <|
  .take ⟨(some 29), none, .faddr 0 (.t 6)⟩ <|
  .take ⟨(some 30), none, .load false 1 (.t 29)⟩ <|
  .take ⟨(some 31), none, .mov (.t 0)⟩ <|
  .take ⟨(some 33), none, .faddr 0 (.t 6)⟩ <|
  .take ⟨(some 34), none, .load false 1 (.t 33)⟩ <|
  .take ⟨(some 35), none, .mov (.t 0)⟩ <|
  .one ⟨(some 32), none, .call (.c (.g (.fn 86))) [(.t 30), (.t 31)]⟩ <|
  .one ⟨(some 36), none, .call (.c (.g (.fn 87))) [(.t 34), (.t 35)]⟩ <|
  .take ⟨(some 37), none, .build [.g (.int .i64 0), .g (.int .i64 0), .g (.int .i64 0), .g (.int .i64 0)] [(0, 1, (.t 26)), (1, 1, (.t 28)), (2, 1, (.t 32)), (3, 1, (.t 36))]⟩ <|
  .free <|
  .one ⟨none, none, .store 4 (.t 4) (.t 37)⟩ <|
  .take ⟨(some 5), none, .mov (.c (.g (.bool true)))⟩ <|
  .leaf) <|
 .ret⟩
def h56 : List (List Nat) := [[0, 3, 4], [0, 3, 4, 6], [0, 3, 4, 6, 23], [0, 3, 4, 6], [4, 5], [4, 5], []]
theorem c56 : cFunc Try.prog 56 false h56 = some F56 := by kernel_rfl

/-- baton/batonref11.Rate -/
def F57 : IFunc := ⟨2, 17, [.tmp 4], false,
 .seq (.reg [0, 1] [⟨(some 4), none, .mov (.c (.g (.int .i64 0)))⟩]) <|
 .seq (.reg [0, 1, 5] [⟨(some 5), none, .mov (.c (.g (.int .i64 0)))⟩]) <|
 .seq (.reg [0, 1, 5, 6] [⟨(some 6), none, .mov (.c (.g (.int .i64 64)))⟩]) <|
 .seq (.seq (.reg [0, 5, 6, 7] [⟨(some 7), none, .mov (.t 1)⟩]) <|
  .cond [0, 5, 6] (.t 7)
   (.seq (.reg [0, 5] [⟨(some 5), none, .mov (.c (.g (.int .i64 15)))⟩]) <|
    .reg [0, 5, 6] [⟨(some 6), none, .mov (.c (.g (.int .i64 17)))⟩])
   (.skip)) <|
 .seq (.seq (.reg [0, 5, 6, 10] [⟨(some 8), none, .mov (.t 0)⟩,
     ⟨(some 9), none, .mov (.t 5)⟩,
     ⟨(some 10), none, .bin .lss (.t 8) (.t 9)⟩]) <|
  .cond [0, 6] (.t 10)
   (.seq (.reg [4] [⟨(some 11), none, .mov (.t 5)⟩,
       ⟨(some 4), none, .mov (.t 11)⟩]) <|
    .ret)
   (.skip)) <|
 .seq (.seq (.reg [0, 6, 14] [⟨(some 12), none, .mov (.t 0)⟩,
     ⟨(some 13), none, .mov (.t 6)⟩,
     ⟨(some 14), none, .bin .gtr (.t 12) (.t 13)⟩]) <|
  .cond [0] (.t 14)
   (.seq (.reg [4] [⟨(some 15), none, .mov (.t 6)⟩,
       ⟨(some 4), none, .mov (.t 15)⟩]) <|
    .ret)
   (.skip)) <|
 .seq (.reg [4] [⟨(some 16), none, .mov (.t 0)⟩,
    ⟨(some 4), none, .mov (.t 16)⟩]) <|
 .ret⟩
def h57 : List (List Nat) := [[0, 1], [0, 1, 5], [0, 1, 5, 6], [0, 5, 6, 7], [0, 5, 6], [0, 5], [0, 5, 6], [0, 5, 6, 10], [0, 6], [4], [0, 6, 14], [0], [4], [4]]
theorem c57 : cFunc Try.prog 57 false h57 = some F57 := by kernel_rfl

/-- baton/sess.Kept -/
def F58 : IFunc := ⟨3, 54, [.cell 6 true 4], false,
 .seq (.reg [1, 3, 5, 6] [⟨(some 3), none, .box (.t 0)⟩,
    ⟨(some 5), none, .box (.t 2)⟩,
    ⟨(some 6), none, .alloc [.z (.int .i64 0), .z (.int .i64 0), .z (.int .i64 0), .z (.int .i64 0)]⟩]) <|
 .seq (.block [1, 3, 6] 0 <|
  .seq (.reg [1, 3, 5, 6, 8] [⟨(some 9), none, .faddr 0 (.t 5)⟩,
     ⟨(some 10), none, .load false 1 (.t 9)⟩,
     ⟨(some 11), none, .bin .eql (.t 10) (.c (.g (.int .i64 6)))⟩,
     ⟨(some 8), none, .mov (.t 11)⟩]) <|
  .cond [1, 3, 6] (.t 8)
   (.seq (.reg [6] [⟨(some 12), none, .build [.g (.int .i64 0), .g (.int .i64 0), .g (.int .i64 0), .g (.int .i64 0)] []⟩,
       ⟨none, none, .store 4 (.t 6) (.t 12)⟩]) <|
    .ret)
   (.seq (.reg [1, 3, 6, 13] [⟨(some 14), none, .faddr 0 (.t 5)⟩,
       ⟨(some 15), none, .load false 1 (.t 14)⟩,
       ⟨(some 16), none, .bin .neq (.t 15) (.c (.g (.int .i64 0)))⟩,
       ⟨(some 17), none, .mov (.t 16)⟩,
       ⟨(some 18), (some (17, false)), .faddr 4 (.t 5)⟩,
       ⟨(some 19), (some (17, false)), .load false 1 (.t 18)⟩,
       ⟨(some 20), (some (17, false)), .faddr 0 (.t 3)⟩,
       ⟨(some 21), (some (17, false)), .load false 1 (.t 20)⟩,
       ⟨(some 22), (some (17, false)), .bin .neq (.t 19) (.t 21)⟩,
       ⟨(some 23), none, .pick (.t 17) (.c (.g (.bool true))) (.t 22)⟩,
       ⟨(some 24), none, .mov (.t 23)⟩,
       ⟨(some 25), (some (24, false)), .mov (.t 1)⟩,
       ⟨(some 26), (some (24, false)), .bin .lss (.t 25) (.c (.g (.int .i64 0)))⟩,
       ⟨(some 27), none, .pick (.t 24) (.c (.g (.bool true))) (.t 26)⟩,
       ⟨(some 28), none, .mov (.t 27)⟩,
       ⟨(some 29), (some (28, false)), .mov (.t 1)⟩,
       ⟨(some 30), (some (28, false)), .bin .gtr (.t 29) (.c (.g (.int .i64 1099511627775)))⟩,
       ⟨(some 31), none, .pick (.t 28) (.c (.g (.bool true))) (.t 30)⟩,
       ⟨(some 13), none, .mov (.t 31)⟩]) <|
    .cond [1, 3, 6] (.t 13)
     (.seq (.reg [6] [⟨(some 32), none, .load true 4 (.t 3)⟩,
         ⟨none, none, .store 4 (.t 6) (.t 32)⟩]) <|
      .ret)
     (.skip))) <|
 .seq (.reg [1, 3, 6, 7] [⟨(some 33), none, .faddr 1 (.t 3)⟩,
    ⟨(some 34), none, .load false 1 (.t 33)⟩,
    ⟨(some 35), none, .mov (.t 1)⟩,
    ⟨(some 36), none, .call (.c (.g (.fn 84))) [(.t 34), (.t 35)]⟩,
    ⟨(some 7), none, .alloc [.z (.int .i64 0), .z (.int .i64 0)]⟩,
    ⟨none, none, .store 2 (.t 7) (.t 36)⟩]) <|
 .seq (.drw [1, 3, 6, 7] 0 <|
  .take ⟨(some 37), none, .faddr 2 (.t 3)⟩ <|
  .take ⟨(some 38), none, .load false 1 (.t 37)⟩ <|
  .take ⟨(some 39), none, .faddr 0 (.t 7)⟩ <|
  .take ⟨(some 40), none, .load false 1 (.t 39)⟩ <|
  .take ⟨(some 41), none, .mov (.t 1)⟩ <|
  .one ⟨(some 42), none, .call (.c (.g (.fn 86))) [(.t 40), (.t 41)]⟩ <|
  .take ⟨(some 43), none, .mx (.t 38) [(.t 42)]⟩ <|
  .free <|
  .take ⟨(some 44), none, .faddr 2 (.t 3)⟩ <|
  .one ⟨none, none, .store 1 (.t 44) (.t 43)⟩ <|
  .leaf) <|
 .seq (.drw [3, 6] 0 <|
  .take ⟨(some 45), none, .faddr 3 (.t 3)⟩ <|
  .take ⟨(some 46), none, .load false 1 (.t 45)⟩ <|
  .take ⟨(some 47), none, .faddr 0 (.t 7)⟩ <|
  .take ⟨(some 48), none, .load false 1 (.t 47)⟩ <|
  .take ⟨(some 49), none, .mov (.t 1)⟩ <|
  .one ⟨(some 50), none, .call (.c (.g (.fn 87))) [(.t 48), (.t 49)]⟩ <|
  .take ⟨(some 51), none, .mx (.t 46) [(.t 50)]⟩ <|
  .free <|
  .take ⟨(some 52), none, .faddr 3 (.t 3)⟩ <|
  .one ⟨none, none, .store 1 (.t 52) (.t 51)⟩ <|
  .leaf) <|
 .seq (.reg [6] [⟨(some 53), none, .load true 4 (.t 3)⟩,
    ⟨none, none, .store 4 (.t 6) (.t 53)⟩]) <|
 .ret⟩
def h58 : List (List Nat) := [[1, 3, 5, 6], [1, 3, 6], [1, 3, 5, 6, 8], [1, 3, 6], [6], [1, 3, 6, 13], [1, 3, 6], [6], [1, 3, 6, 7], [1, 3, 6, 7], [], [3, 6], [], [6]]
theorem c58 : cFunc Try.prog 58 false h58 = some F58 := by kernel_rfl

/-- baton/sess.Alive -/
def F59 : IFunc := ⟨2, 14, [.tmp 4], false,
 .seq (.reg [1, 2] [⟨(some 2), none, .box (.t 0)⟩,
    ⟨(some 4), none, .mov (.c (.g (.bool false)))⟩]) <|
 .seq (.reg [4] [⟨(some 5), none, .faddr 0 (.t 2)⟩,
    ⟨(some 6), none, .load false 1 (.t 5)⟩,
    ⟨(some 7), none, .bin .neq (.t 6) (.c (.g (.int .i64 0)))⟩,
    ⟨(some 8), none, .mov (.t 7)⟩,
    ⟨(some 9), (some (8, true)), .mov (.t 1)⟩,
    ⟨(some 10), (some (8, true)), .faddr 2 (.t 2)⟩,
    ⟨(some 11), (some (8, true)), .load false 1 (.t 10)⟩,
    ⟨(some 12), (some (8, true)), .bin .lss (.t 9) (.t 11)⟩,
    ⟨(some 13), none, .pick (.t 8) (.t 12) (.c (.g (.bool false)))⟩,
    ⟨(some 4), none, .mov (.t 13)⟩]) <|
 .ret⟩
def h59 : List (List Nat) := [[1, 2], [4]]
theorem c59 : cFunc Try.prog 59 false h59 = some F59 := by kernel_rfl

/-- (baton/lease.moment).may -/
def F60 : IFunc := ⟨1, 9, [.tmp 2], false,
 .seq (.reg [0] [⟨(some 2), none, .mov (.c (.g (.bool false)))⟩]) <|
 .seq (.reg [2] [⟨(some 3), none, .mov (.t 0)⟩,
    ⟨(some 4), none, .bin .geq (.t 3) (.c (.g (.int .i64 0)))⟩,
    ⟨(some 5), none, .mov (.t 4)⟩,
    ⟨(some 6), (some (5, true)), .mov (.t 0)⟩,
    ⟨(some 7), (some (5, true)), .bin .leq (.t 6) (.c (.g (.int .i64 1099511627775)))⟩,
    ⟨(some 8), none, .pick (.t 5) (.t 7) (.c (.g (.bool false)))⟩,
    ⟨(some 2), none, .mov (.t 8)⟩]) <|
 .ret⟩
def h60 : List (List Nat) := [[0], [2]]
theorem c60 : cFunc Try.prog 60 false h60 = some F60 := by kernel_rfl

/-- (*baton/lease.held).stretch -/
def F61 : IFunc := ⟨2, 18, [], false,
 .drw [] 0 <|
 .take ⟨(some 4), none, .mov (.t 0)⟩ <|
 .take ⟨(some 5), none, .mov (.t 0)⟩ <|
 .take ⟨(some 6), none, .nilchk (.t 5)⟩ <|
 .take ⟨(some 7), none, .faddr 2 (.t 6)⟩ <|
 .take ⟨(some 8), none, .load false 1 (.t 7)⟩ <|
 .take ⟨(some 9), none, .mov (.t 1)⟩ <|
 .take ⟨(some 10), none, .mov (.t 0)⟩ <|
 .take ⟨(some 11), none, .nilchk (.t 10)⟩ <|
 .take ⟨(some 12), none, .faddr 1 (.t 11)⟩ <|
 .take ⟨(some 13), none, .load false 1 (.t 12)⟩ <|
 .take ⟨(some 14), none, .bin .add (.t 9) (.t 13)⟩ <|
 .take ⟨(some 15), none, .mx (.t 8) [(.t 14)]⟩ <|
 .free <|
 .take ⟨(some 16), none, .nilchk (.t 4)⟩ <|
 .take ⟨(some 17), none, .faddr 2 (.t 16)⟩ <|
 .one ⟨none, none, .store 1 (.t 17) (.t 15)⟩ <|
 .leaf⟩
def h61 : List (List Nat) := [[], []]
theorem c61 : cFunc Try.prog 61 false h61 = some F61 := by kernel_rfl

/-- slices.Concat[[]baton/api.Lease,baton/api.Lease] -/
def L62_0 : IC :=
 .seq (.reg [0, 3, 9, 10, 11, 12] [⟨(some 12), none, .bin .lss (.t 11) (.t 10)⟩]) <|
 .seq (.cond [0, 3, 9, 10, 11] (.t 12)
   (.skip)
   (.exit 0)) <|
 .seq (.block [0, 3, 9, 10, 11] 1 <|
  .seq (.reg [0, 3, 5, 9, 10, 11] [⟨(some 13), none, .iaddr 1 (.t 9) (.t 11)⟩,
     ⟨(some 14), none, .load false 1 (.t 13)⟩,
     ⟨(some 5), none, .mov (.t 14)⟩]) <|
  .seq (.reg [0, 3, 9, 10, 11] [⟨(some 15), none, .mov (.t 3)⟩,
     ⟨(some 16), none, .mov (.t 5)⟩,
     ⟨(some 17), none, .len (.t 16)⟩,
     ⟨(some 18), none, .bin .add (.t 15) (.t 17)⟩,
     ⟨(some 3), none, .mov (.t 18)⟩]) <|
  .seq (.reg [0, 3, 9, 10, 11, 20] [⟨(some 19), none, .mov (.t 3)⟩,
     ⟨(some 20), none, .bin .lss (.t 19) (.c (.g (.int .i64 0)))⟩]) <|
  .cond [0, 3, 9, 10, 11] (.t 20)
   (.reg [0, 3, 9, 10, 11] [⟨(some 21), none, .mkif 9 (.c (.g (.str [108, 101, 110, 32, 111, 117, 116, 32, 111, 102, 32, 114, 97, 110, 103, 101])))⟩,
      ⟨none, none, .row 0 []⟩])
   (.skip)) <|
 .reg [0, 3, 9, 10, 11] [⟨(some 22), none, .bin .add (.t 11) (.c (.g (.int .i64 1)))⟩,
   ⟨(some 11), none, .mov (.t 22)⟩]
def L62_1 : IC :=
 .seq (.reg [6, 25, 26, 27, 28] [⟨(some 28), none, .bin .lss (.t 27) (.t 26)⟩]) <|
 .seq (.cond [6, 25, 26, 27] (.t 28)
   (.skip)
   (.exit 2)) <|
 .seq (.block [6, 25, 26, 27] 3 <|
  .seq (.reg [6, 8, 25, 26, 27] [⟨(some 29), none, .iaddr 1 (.t 25) (.t 27)⟩,
     ⟨(some 30), none, .load false 1 (.t 29)⟩,
     ⟨(some 8), none, .mov (.t 30)⟩]) <|
  .reg [6, 25, 26, 27] [⟨(some 31), none, .mov (.t 6)⟩,
    ⟨(some 32), none, .mov (.t 8)⟩,
    ⟨(some 33), none, .app 3 24 (.t 31) (.t 32)⟩,
    ⟨(some 6), none, .mov (.t 33)⟩]) <|
 .reg [6, 25, 26, 27] [⟨(some 34), none, .bin .add (.t 27) (.c (.g (.int .i64 1)))⟩,
   ⟨(some 27), none, .mov (.t 34)⟩]
def F62 : IFunc := ⟨1, 36, [.tmp 2], false,
 .seq (.reg [0] [⟨(some 2), none, .nres 3⟩]) <|
 .seq (.reg [0, 3] [⟨(some 3), none, .mov (.c (.g (.int .i64 0)))⟩]) <|
 .seq (.seq (.reg [0, 3, 9, 10, 11] [⟨(some 9), none, .mov (.t 0)⟩,
     ⟨(some 10), none, .len (.t 9)⟩,
     ⟨(some 11), none, .mov (.c (.g (.int .i64 0)))⟩]) <|
  .block [0, 3] 0 <|
  .loop [0, 3, 9, 10, 11] [] L62_0) <|
 .seq (.reg [0, 6] [⟨(some 23), none, .mov (.t 3)⟩,
    ⟨(some 24), none, .call (.c (.g (.fn 88))) [(.c (.g (.nsl))), (.t 23)]⟩,
    ⟨(some 6), none, .mov (.t 24)⟩]) <|
 .seq (.seq (.reg [6, 25, 26, 27] [⟨(some 25), none, .mov (.t 0)⟩,
     ⟨(some 26), none, .len (.t 25)⟩,
     ⟨(some 27), none, .mov (.c (.g (.int .i64 0)))⟩]) <|
  .block [6] 2 <|
  .loop [6, 25, 26, 27] [] L62_1) <|
 .seq (.reg [2] [⟨(some 35), none, .mov (.t 6)⟩,
    ⟨(some 2), none, .mov (.t 35)⟩]) <|
 .ret⟩
def h62 : List (List Nat) := [[0], [0, 3], [0, 3, 9, 10, 11], [0, 3], [0, 3, 9, 10, 11], [0, 3, 9, 10, 11, 12], [0, 3, 9, 10, 11], [0, 3, 9, 10, 11], [0, 3, 5, 9, 10, 11], [0, 3, 9, 10, 11], [0, 3, 9, 10, 11, 20], [0, 3, 9, 10, 11], [0, 3, 9, 10, 11], [0, 3, 9, 10, 11], [0, 6], [6, 25, 26, 27], [6], [6, 25, 26, 27], [6, 25, 26, 27, 28], [6, 25, 26, 27], [6, 25, 26, 27], [6, 8, 25, 26, 27], [6, 25, 26, 27], [6, 25, 26, 27], [2]]
theorem c62 : cFunc Try.prog 62 false h62 = some F62 := by kernel_rfl

/-- baton/batonref08.time -/
def F63 : IFunc := ⟨1, 9, [.tmp 2], false,
 .seq (.reg [0] [⟨(some 2), none, .mov (.c (.g (.bool false)))⟩]) <|
 .seq (.reg [2] [⟨(some 3), none, .mov (.t 0)⟩,
    ⟨(some 4), none, .bin .geq (.t 3) (.c (.g (.int .i64 0)))⟩,
    ⟨(some 5), none, .mov (.t 4)⟩,
    ⟨(some 6), (some (5, true)), .mov (.t 0)⟩,
    ⟨(some 7), (some (5, true)), .bin .leq (.t 6) (.c (.g (.int .i64 1099511627775)))⟩,
    ⟨(some 8), none, .pick (.t 5) (.t 7) (.c (.g (.bool false)))⟩,
    ⟨(some 2), none, .mov (.t 8)⟩]) <|
 .ret⟩
def h63 : List (List Nat) := [[0], [2]]
theorem c63 : cFunc Try.prog 63 false h63 = some F63 := by kernel_rfl

/-- baton/lease.place -/
def L64_0 : IC :=
 .seq (.reg [1, 5, 9, 10, 11, 12] [⟨(some 12), none, .bin .lss (.t 11) (.t 10)⟩]) <|
 .seq (.cond [1, 5, 9, 10, 11] (.t 12)
   (.skip)
   (.exit 0)) <|
 .seq (.block [1, 5, 9, 10, 11] 1 <|
  .seq (.reg [1, 5, 6, 7, 9, 10, 11] [⟨(some 13), none, .mov (.t 11)⟩,
     ⟨(some 14), none, .iaddr 3 (.t 9) (.t 11)⟩,
     ⟨(some 15), none, .load true 3 (.t 14)⟩,
     ⟨(some 7), none, .alloc [.z (.int .i64 0), .z (.int .i64 0), .z (.int .i64 0)]⟩,
     ⟨(some 6), none, .mov (.t 13)⟩,
     ⟨none, none, .store 3 (.t 7) (.t 15)⟩]) <|
  .seq (.seq (.reg [1, 5, 6, 9, 10, 11, 19] [⟨(some 16), none, .faddr 0 (.t 7)⟩,
      ⟨(some 17), none, .load false 1 (.t 16)⟩,
      ⟨(some 18), none, .mov (.t 1)⟩,
      ⟨(some 19), none, .bin .neq (.t 17) (.t 18)⟩]) <|
   .cond [6] (.t 19)
    (.exit 1)
    (.skip)) <|
  .seq (.reg [5] [⟨(some 20), none, .mov (.t 6)⟩,
     ⟨(some 5), none, .mov (.t 20)⟩]) <|
  .exit 0) <|
 .reg [1, 5, 9, 10, 11] [⟨(some 21), none, .bin .add (.t 11) (.c (.g (.int .i64 1)))⟩,
   ⟨(some 11), none, .mov (.t 21)⟩]
def F64 : IFunc := ⟨2, 23, [.tmp 4], false,
 .seq (.reg [1, 2] [⟨(some 2), none, .box (.t 0)⟩,
    ⟨(some 4), none, .mov (.c (.g (.int .i64 0)))⟩]) <|
 .seq (.reg [1, 2, 5] [⟨(some 5), none, .mov (.c (.g (.int .i64 (-1))))⟩]) <|
 .seq (.skip) <|
 .seq (.seq (.reg [1, 5, 9, 10, 11] [⟨(some 8), none, .faddr 1 (.t 2)⟩,
     ⟨(some 9), none, .load false 1 (.t 8)⟩,
     ⟨(some 10), none, .len (.t 9)⟩,
     ⟨(some 11), none, .mov (.c (.g (.int .i64 0)))⟩]) <|
  .block [5] 0 <|
  .loop [1, 5, 9, 10, 11] [] L64_0) <|
 .seq (.reg [4] [⟨(some 22), none, .mov (.t 5)⟩,
    ⟨(some 4), none, .mov (.t 22)⟩]) <|
 .ret⟩
def h64 : List (List Nat) := [[1, 2], [1, 2, 5], [1, 5, 9, 10, 11], [5], [1, 5, 9, 10, 11], [1, 5, 9, 10, 11, 12], [1, 5, 9, 10, 11], [1, 5, 9, 10, 11], [1, 5, 6, 7, 9, 10, 11], [1, 5, 6, 9, 10, 11, 19], [6], [5], [1, 5, 9, 10, 11], [4]]
theorem c64 : cFunc Try.prog 64 false h64 = some F64 := by kernel_rfl

/-- slices.Clone[[]baton/api.Lease,baton/api.Lease] -/
def F65 : IFunc := ⟨1, 8, [.tmp 2], true,
 .seq (.reg [0] [⟨(some 2), none, .nres 3⟩]) <|
 .seq (.seq (.reg [0, 4] [⟨(some 3), none, .mov (.t 0)⟩,
     ⟨(some 4), none, .isnilS false (.t 3)⟩]) <|
  .cond [0] (.t 4)
   (.seq (.reg [2] [⟨(some 2), none, .nres 3⟩]) <|
    .ret)
   (.skip)) <|
 .seq (.reg [2] [⟨(some 5), none, .mk0 3⟩,
    ⟨(some 6), none, .mov (.t 0)⟩,
    ⟨(some 7), none, .app 3 24 (.t 5) (.t 6)⟩,
    ⟨(some 2), none, .mov (.t 7)⟩]) <|
 .ret⟩
def h65 : List (List Nat) := [[0], [0, 4], [0], [2], [2]]
theorem c65 : cFunc Try.prog 65 true h65 = some F65 := by kernel_rfl

/-- baton/batonref08.place -/
def L66_0 : IC :=
 .seq (.seq (.reg [1, 2, 5, 10] [⟨(some 6), none, .mov (.t 5)⟩,
     ⟨(some 7), none, .faddr 1 (.t 2)⟩,
     ⟨(some 8), none, .load false 1 (.t 7)⟩,
     ⟨(some 9), none, .len (.t 8)⟩,
     ⟨(some 10), none, .bin .lss (.t 6) (.t 9)⟩]) <|
  .cond [1, 2, 5] (.t 10)
   (.skip)
   (.exit 0)) <|
 .seq (.block [1, 2, 5] 1 <|
  .seq (.reg [1, 2, 5, 20] [⟨(some 13), none, .faddr 1 (.t 2)⟩,
     ⟨(some 14), none, .load false 1 (.t 13)⟩,
     ⟨(some 15), none, .mov (.t 5)⟩,
     ⟨(some 16), none, .iaddr 3 (.t 14) (.t 15)⟩,
     ⟨(some 17), none, .faddr 0 (.t 16)⟩,
     ⟨(some 18), none, .load false 1 (.t 17)⟩,
     ⟨(some 19), none, .mov (.t 1)⟩,
     ⟨(some 20), none, .bin .eql (.t 18) (.t 19)⟩]) <|
  .cond [1, 2, 5] (.t 20)
   (.seq (.reg [4] [⟨(some 21), none, .mov (.t 5)⟩,
       ⟨(some 4), none, .mov (.t 21)⟩]) <|
    .ret)
   (.skip)) <|
 .reg [1, 2, 5] [⟨(some 11), none, .mov (.t 5)⟩,
   ⟨(some 12), none, .bin .add (.t 11) (.c (.g (.int .i64 1)))⟩,
   ⟨(some 5), none, .mov (.t 12)⟩]
def F66 : IFunc := ⟨2, 22, [.tmp 4], false,
 .seq (.reg [1, 2] [⟨(some 2), none, .box (.t 0)⟩,
    ⟨(some 4), none, .mov (.c (.g (.int .i64 0)))⟩]) <|
 .seq (.seq (.reg [1, 2, 5] [⟨(some 5), none, .mov (.c (.g (.int .i64 0)))⟩]) <|
  .block [] 0 <|
  .loop [1, 2, 5] [] L66_0) <|
 .seq (.reg [4] [⟨(some 4), none, .mov (.c (.g (.int .i64 (-1))))⟩]) <|
 .ret⟩
def h66 : List (List Nat) := [[1, 2], [1, 2, 5], [], [1, 2, 5], [1, 2, 5, 10], [1, 2, 5], [1, 2, 5], [1, 2, 5, 20], [1, 2, 5], [4], [1, 2, 5], [4]]
theorem c66 : cFunc Try.prog 66 false h66 = some F66 := by kernel_rfl

/-- baton/batonref03.ShortMuts -/
def L67_0 : IC :=
 .seq (.seq (.reg [0, 3, 10] [⟨(some 7), none, .mov (.t 3)⟩,
     ⟨(some 8), none, .mov (.t 0)⟩,
     ⟨(some 9), none, .len (.t 8)⟩,
     ⟨(some 10), none, .bin .lss (.t 7) (.t 9)⟩]) <|
  .cond [0, 3] (.t 10)
   (.skip)
   (.exit 0)) <|
 .seq (.block [0, 3] 1 <|
  .seq (.reg [0, 3, 28] [⟨(some 13), none, .mov (.t 0)⟩,
     ⟨(some 14), none, .mov (.t 3)⟩,
     ⟨(some 15), none, .iaddr 4 (.t 13) (.t 14)⟩,
     ⟨(some 16), none, .faddr 1 (.t 15)⟩,
     ⟨(some 17), none, .load false 1 (.t 16)⟩,
     ⟨(some 18), none, .lenS (.t 17)⟩,
     ⟨(some 19), none, .bin .gtr (.t 18) (.c (.g (.int .i64 60)))⟩,
     ⟨(some 20), none, .mov (.t 19)⟩,
     ⟨(some 21), (some (20, false)), .mov (.t 0)⟩,
     ⟨(some 22), (some (20, false)), .mov (.t 3)⟩,
     ⟨(some 23), (some (20, false)), .iaddr 4 (.t 21) (.t 22)⟩,
     ⟨(some 24), (some (20, false)), .faddr 2 (.t 23)⟩,
     ⟨(some 25), (some (20, false)), .load false 1 (.t 24)⟩,
     ⟨(some 26), (some (20, false)), .lenS (.t 25)⟩,
     ⟨(some 27), (some (20, false)), .bin .gtr (.t 26) (.c (.g (.int .i64 60)))⟩,
     ⟨(some 28), none, .pick (.t 20) (.c (.g (.bool true))) (.t 27)⟩]) <|
  .cond [0, 3] (.t 28)
   (.seq (.reg [2] [⟨(some 2), none, .mov (.c (.g (.bool false)))⟩]) <|
    .ret)
   (.skip)) <|
 .reg [0, 3] [⟨(some 11), none, .mov (.t 3)⟩,
   ⟨(some 12), none, .bin .add (.t 11) (.c (.g (.int .i64 1)))⟩,
   ⟨(some 3), none, .mov (.t 12)⟩]
def F67 : IFunc := ⟨1, 29, [.tmp 2], false,
 .seq (.reg [0] [⟨(some 2), none, .mov (.c (.g (.bool false)))⟩]) <|
 .seq (.seq (.reg [0, 6] [⟨(some 4), none, .mov (.t 0)⟩,
     ⟨(some 5), none, .len (.t 4)⟩,
     ⟨(some 6), none, .bin .gtr (.t 5) (.c (.g (.int .i64 8)))⟩]) <|
  .cond [0] (.t 6)
   (.seq (.reg [2] [⟨(some 2), none, .mov (.c (.g (.bool false)))⟩]) <|
    .ret)
   (.skip)) <|
 .seq (.seq (.reg [0, 3] [⟨(some 3), none, .mov (.c (.g (.int .i64 0)))⟩]) <|
  .block [] 0 <|
  .loop [0, 3] [] L67_0) <|
 .seq (.reg [2] [⟨(some 2), none, .mov (.c (.g (.bool true)))⟩]) <|
 .ret⟩
def h67 : List (List Nat) := [[0], [0, 6], [0], [2], [0, 3], [], [0, 3], [0, 3, 10], [0, 3], [0, 3], [0, 3, 28], [0, 3], [2], [0, 3], [2]]
theorem c67 : cFunc Try.prog 67 false h67 = some F67 := by kernel_rfl

/-- baton/batonref03.Ask -/
def L68_0 : IC :=
 .seq (.seq (.reg [1, 4, 5, 61] [⟨(some 56), none, .mov (.t 5)⟩,
     ⟨(some 57), none, .faddr 10 (.t 1)⟩,
     ⟨(some 58), none, .faddr 0 (.t 57)⟩,
     ⟨(some 59), none, .load false 1 (.t 58)⟩,
     ⟨(some 60), none, .len (.t 59)⟩,
     ⟨(some 61), none, .bin .lss (.t 56) (.t 60)⟩]) <|
  .cond [1, 4, 5] (.t 61)
   (.skip)
   (.exit 0)) <|
 .seq (.block [1, 4, 5] 1 <|
  .seq (.reg [1, 4, 5, 6] [⟨(some 64), none, .faddr 10 (.t 1)⟩,
     ⟨(some 65), none, .faddr 0 (.t 64)⟩,
     ⟨(some 66), none, .load false 1 (.t 65)⟩,
     ⟨(some 67), none, .mov (.t 5)⟩,
     ⟨(some 68), none, .iaddr 5 (.t 66) (.t 67)⟩,
     ⟨(some 69), none, .load true 5 (.t 68)⟩,
     ⟨(some 6), none, .alloc [.z (.str []), .z (.int .i64 0), .z (.int .i64 0), .z (.int .i64 0), .z (.str [])]⟩,
     ⟨none, none, .store 5 (.t 6) (.t 69)⟩]) <|
  .drw [1, 4, 5] 0 <|
  .take ⟨(some 70), none, .mov (.t 4)⟩ <|
  .take ⟨(some 71), none, .faddr 0 (.t 6)⟩ <|
  .take ⟨(some 72), none, .load false 1 (.t 71)⟩ <|
  .take ⟨(some 75), none, .faddr 1 (.t 6)⟩ <|
  .take ⟨(some 76), none, .load false 1 (.t 75)⟩ <|
  .take ⟨(some 79), none, .faddr 2 (.t 6)⟩ <|
  .take ⟨(some 80), none, .load false 1 (.t 79)⟩ <|
  .take ⟨(some 83), none, .faddr 3 (.t 6)⟩ <|
  .take ⟨(some 84), none, .load false 1 (.t 83)⟩ <|
  .take ⟨(some 87), none, .faddr 4 (.t 6)⟩ <|
  .take ⟨(some 88), none, .load false 1 (.t 87)⟩ <|
  .one ⟨(some 73), none, .call (.c (.g (.fn 92))) [(.t 72)]⟩ <|
  .take ⟨(some 74), none, .bin .add (.t 70) (.t 73)⟩ <|
  .one ⟨(some 77), none, .call (.c (.g (.fn 90))) [(.t 76)]⟩ <|
  .take ⟨(some 78), none, .bin .add (.t 74) (.t 77)⟩ <|
  .one ⟨(some 81), none, .call (.c (.g (.fn 90))) [(.t 80)]⟩ <|
  .take ⟨(some 82), none, .bin .add (.t 78) (.t 81)⟩ <|
  .one ⟨(some 85), none, .call (.c (.g (.fn 90))) [(.t 84)]⟩ <|
  .take ⟨(some 86), none, .bin .add (.t 82) (.t 85)⟩ <|
  .one ⟨(some 89), none, .call (.c (.g (.fn 92))) [(.t 88)]⟩ <|
  .take ⟨(some 90), none, .bin .add (.t 86) (.t 89)⟩ <|
  .free <|
  .take ⟨(some 4), none, .mov (.t 90)⟩ <|
  .leaf) <|
 .reg [1, 4, 5] [⟨(some 62), none, .mov (.t 5)⟩,
   ⟨(some 63), none, .bin .add (.t 62) (.c (.g (.int .i64 1)))⟩,
   ⟨(some 5), none, .mov (.t 63)⟩]
def F68 : IFunc := ⟨1, 102, [.tmp 2, .tmp 3], false,
 .seq (.reg [1] [⟨(some 1), none, .box (.t 0)⟩,
    ⟨(some 2), none, .mov (.c (.g (.str [])))⟩,
    ⟨(some 3), none, .mov (.c (.g (.bool false)))⟩]) <|
 .seq (.seq (.reg [1, 9] [⟨(some 7), none, .load true 13 (.t 1)⟩,
     ⟨(some 8), none, .call (.c (.g (.fn 89))) [(.t 7)]⟩,
     ⟨(some 9), none, .un .not (.t 8)⟩]) <|
  .cond [1] (.t 9)
   (.seq (.reg [2, 3] [⟨(some 2), none, .mov (.c (.g (.str [])))⟩,
       ⟨(some 3), none, .mov (.c (.g (.bool false)))⟩]) <|
    .ret)
   (.skip)) <|
 .seq (.drw [1, 4] 0 <|
  .take ⟨(some 10), none, .faddr 0 (.t 1)⟩ <|
  .take ⟨(some 11), none, .load false 1 (.t 10)⟩ <|
  .take ⟨(some 14), none, .faddr 1 (.t 1)⟩ <|
  .take ⟨(some 15), none, .load false 1 (.t 14)⟩ <|
  .take ⟨(some 18), none, .faddr 2 (.t 1)⟩ <|
  .take ⟨(some 19), none, .load false 1 (.t 18)⟩ <|
  .take ⟨(some 22), none, .faddr 3 (.t 1)⟩ <|
  .take ⟨(some 23), none, .load false 1 (.t 22)⟩ <|
  .take ⟨(some 26), none, .faddr 4 (.t 1)⟩ <|
  .take ⟨(some 27), none, .load false 1 (.t 26)⟩ <|
  .take ⟨(some 30), none, .faddr 5 (.t 1)⟩ <|
  .take ⟨(some 31), none, .load false 1 (.t 30)⟩ <|
  .take ⟨(some 34), none, .faddr 6 (.t 1)⟩ <|
  .take ⟨(some 35), none, .load false 1 (.t 34)⟩ <|
  .take ⟨(some 38), none, .faddr 7 (.t 1)⟩ <|
  .take ⟨(some 39), none, .load false 1 (.t 38)⟩ <|
  .take ⟨(some 42), none, .faddr 8 (.t 1)⟩ <|
  .take ⟨(some 43), none, .load false 1 (.t 42)⟩ <|
  .take ⟨(some 46), none, .faddr 9 (.t 1)⟩ <|
  .take ⟨(some 47), none, .load false 1 (.t 46)⟩ <|
  .take ⟨(some 50), none, .faddr 10 (.t 1)⟩ <|
  .take ⟨(some 51), none, .faddr 0 (.t 50)⟩ <|
  .take ⟨(some 52), none, .load false 1 (.t 51)⟩ <|
  .take ⟨(some 53), none, .len (.t 52)⟩ <|
  .one ⟨(some 12), none, .call (.c (.g (.fn 90))) [(.t 11)]⟩ <|
  .take ⟨(some 13), none, .bin .add (.c (.g (.str [1]))) (.t 12)⟩ <|
  .one ⟨(some 16), none, .call (.c (.g (.fn 90))) [(.t 15)]⟩ <|
  .take ⟨(some 17), none, .bin .add (.t 13) (.t 16)⟩ <|
  .one ⟨(some 20), none, .call (.c (.g (.fn 90))) [(.t 19)]⟩ <|
  .take ⟨(some 21), none, .bin .add (.t 17) (.t 20)⟩ <|
  .one ⟨(some 24), none, .call (.c (.g (.fn 91))) [(.t 23)]⟩ <|
  .take ⟨(some 25), none, .bin .add (.t 21) (.t 24)⟩ <|
  .one ⟨(some 28), none, .call (.c (.g (.fn 92))) [(.t 27)]⟩ <|
  .take ⟨(some 29), none, .bin .add (.t 25) (.t 28)⟩ <|
  .one ⟨(some 32), none, .call (.c (.g (.fn 92))) [(.t 31)]⟩ <|
  .take ⟨(some 33), none, .bin .add (.t 29) (.t 32)⟩ <|
  .one ⟨(some 36), none, .call (.c (.g (.fn 90))) [(.t 35)]⟩ <|
  .take ⟨(some 37), none, .bin .add (.t 33) (.t 36)⟩ <|
  .one ⟨(some 40), none, .call (.c (.g (.fn 90))) [(.t 39)]⟩ <|
  .take ⟨(some 41), none, .bin .add (.t 37) (.t 40)⟩ <|
  .one ⟨(some 44), none, .call (.c (.g (.fn 90))) [(.t 43)]⟩ <|
  .take ⟨(some 45), none, .bin .add (.t 41) (.t 44)⟩ <|
  .one ⟨(some 48), none, .call (.c (.g (.fn 90))) [(.t 47)]⟩ <|
  .take ⟨(some 49), none, .bin .add (.t 45) (.t 48)⟩ <|
  .one ⟨(some 54), none, .call (.c (.g (.fn 90))) [(.t 53)]⟩ <|
  .take ⟨(some 55), none, .bin .add (.t 49) (.t 54)⟩ <|
  .free <|
  .take ⟨(some 4), none, .mov (.t 55)⟩ <|
  .leaf) <|
 .seq (.seq (.reg [1, 4, 5] [⟨(some 5), none, .mov (.c (.g (.int .i64 0)))⟩]) <|
  .block [1, 4] 0 <|
  .loop [1, 4, 5] [] L68_0) <|
 .seq (.drw [2, 3] 0 <|
  .take ⟨(some 91), none, .mov (.t 4)⟩ <|
  .take ⟨(some 92), none, .faddr 10 (.t 1)⟩ <|
  .take ⟨(some 93), none, .faddr 1 (.t 92)⟩ <|
  .take ⟨(some 94), none, .load false 1 (.t 93)⟩ <|
  .take ⟨(some 97), none, .faddr 10 (.t 1)⟩ <|
  .take ⟨(some 98), none, .faddr 2 (.t 97)⟩ <|
  .take ⟨(some 99), none, .load false 1 (.t 98)⟩ <|
  .one ⟨(some 95), none, .call (.c (.g (.fn 93))) [(.t 94)]⟩ <|
  .take ⟨(some 96), none, .bin .add (.t 91) (.t 95)⟩ <|
  .one ⟨(some 100), none, .call (.c (.g (.fn 93))) [(.t 99)]⟩ <|
  .take ⟨(some 101), none, .bin .add (.t 96) (.t 100)⟩ <|
  .free <|
  .take ⟨(some 2), none, .mov (.t 101)⟩ <|
  .take ⟨(some 3), none, .mov (.c (.g (.bool true)))⟩ <|
  .leaf) <|
 .ret⟩
def h68 : List (List Nat) := [[1], [1, 9], [1], [2, 3], [1, 4], [], [1, 4, 5], [1, 4], [1, 4, 5], [1, 4, 5, 61], [1, 4, 5], [1, 4, 5], [1, 4, 5, 6], [1, 4, 5], [], [1, 4, 5], [2, 3], []]
theorem c68 : cFunc Try.prog 68 false h68 = some F68 := by kernel_rfl

/-- (baton/call.name).is -/
def F69 : IFunc := ⟨2, 12, [.tmp 4], false,
 .seq (.reg [2, 3] [⟨(some 2), none, .box (.t 0)⟩,
    ⟨(some 3), none, .box (.t 1)⟩,
    ⟨(some 4), none, .mov (.c (.g (.bool false)))⟩]) <|
 .seq (.reg [4] [⟨(some 5), none, .load true 2 (.t 2)⟩,
    ⟨(some 6), none, .faddr 1 (.t 3)⟩,
    ⟨(some 7), none, .load false 1 (.t 6)⟩,
    ⟨(some 8), none, .faddr 2 (.t 3)⟩,
    ⟨(some 9), none, .load false 1 (.t 8)⟩,
    ⟨(some 10), none, .build [.g (.int .i64 0), .g (.int .i64 0)] [(0, 1, (.t 7)), (1, 1, (.t 9))]⟩,
    ⟨(some 11), none, .eqs false true [.i, .i] (.t 5) (.t 10)⟩,
    ⟨(some 4), none, .mov (.t 11)⟩]) <|
 .ret⟩
def h69 : List (List Nat) := [[2, 3], [4]]
theorem c69 : cFunc Try.prog 69 false h69 = some F69 := by kernel_rfl

/-- baton/wire.texts -/
def F70 : IFunc := ⟨2, 13, [.tmp 4], false,
 .seq (.reg [0, 1] [⟨(some 4), none, .mov (.c (.g (.bool false)))⟩]) <|
 .seq (.reg [4] [⟨(some 5), none, .mov (.t 0)⟩,
    ⟨(some 6), none, .lenS (.t 5)⟩,
    ⟨(some 7), none, .bin .leq (.t 6) (.c (.g (.int .i64 40)))⟩,
    ⟨(some 8), none, .mov (.t 7)⟩,
    ⟨(some 9), (some (8, true)), .mov (.t 1)⟩,
    ⟨(some 10), (some (8, true)), .lenS (.t 9)⟩,
    ⟨(some 11), (some (8, true)), .bin .leq (.t 10) (.c (.g (.int .i64 20)))⟩,
    ⟨(some 12), none, .pick (.t 8) (.t 11) (.c (.g (.bool false)))⟩,
    ⟨(some 4), none, .mov (.t 12)⟩]) <|
 .ret⟩
def h70 : List (List Nat) := [[0, 1], [4]]
theorem c70 : cFunc Try.prog 70 false h70 = some F70 := by kernel_rfl

/-- baton/wire.number -/
def F71 : IFunc := ⟨1, 6, [.tmp 2], false,
 .seq (.reg [0] [⟨(some 2), none, .mov (.c (.g (.bool false)))⟩]) <|
 .seq (.reg [2] [⟨(some 3), none, .mov (.t 0)⟩,
    ⟨(some 4), none, .call (.c (.g (.fn 94))) [(.t 3), (.c (.g (.fn 95)))]⟩,
    ⟨(some 5), none, .un .not (.t 4)⟩,
    ⟨(some 2), none, .mov (.t 5)⟩]) <|
 .ret⟩
def h71 : List (List Nat) := [[0], [2]]
theorem c71 : cFunc Try.prog 71 false h71 = some F71 := by kernel_rfl

/-- baton/wire.all[baton/api.Cmp] -/
def F72 : IFunc := ⟨3, 17, [.tmp 6], false,
 .seq (.reg [0, 1, 5] [⟨(some 5), none, .box (.t 2)⟩,
    ⟨(some 6), none, .mov (.c (.g (.bool false)))⟩]) <|
 .seq (.reg [6] [⟨(some 7), none, .mov (.t 0)⟩,
    ⟨(some 8), none, .len (.t 7)⟩,
    ⟨(some 9), none, .mov (.t 1)⟩,
    ⟨(some 10), none, .bin .leq (.t 8) (.t 9)⟩,
    ⟨(some 11), none, .mov (.t 10)⟩,
    ⟨(some 12), (some (11, true)), .mov (.t 0)⟩,
    ⟨(some 13), (some (11, true)), .mkfn 97 [(.t 5)]⟩,
    ⟨(some 14), (some (11, true)), .call (.c (.g (.fn 96))) [(.t 12), (.t 13)]⟩,
    ⟨(some 15), (some (11, true)), .un .not (.t 14)⟩,
    ⟨(some 16), none, .pick (.t 11) (.t 15) (.c (.g (.bool false)))⟩,
    ⟨(some 6), none, .mov (.t 16)⟩]) <|
 .ret⟩
def h72 : List (List Nat) := [[0, 1, 5], [6]]
theorem c72 : cFunc Try.prog 72 false h72 = some F72 := by kernel_rfl

/-- baton/wire.mayCmp -/
def F73 : IFunc := ⟨1, 34, [.tmp 2], false,
 .seq (.reg [1] [⟨(some 1), none, .box (.t 0)⟩,
    ⟨(some 2), none, .mov (.c (.g (.bool false)))⟩]) <|
 .seq (.reg [2] [⟨(some 3), none, .faddr 0 (.t 1)⟩,
    ⟨(some 4), none, .load false 1 (.t 3)⟩,
    ⟨(some 5), none, .faddr 4 (.t 1)⟩,
    ⟨(some 6), none, .load false 1 (.t 5)⟩,
    ⟨(some 7), none, .call (.c (.g (.fn 70))) [(.t 4), (.t 6)]⟩,
    ⟨(some 8), none, .mov (.t 7)⟩,
    ⟨(some 9), (some (8, true)), .faddr 1 (.t 1)⟩,
    ⟨(some 10), (some (8, true)), .load false 1 (.t 9)⟩,
    ⟨(some 11), (some (8, true)), .bin .geq (.t 10) (.c (.g (.int .i64 1)))⟩,
    ⟨(some 12), none, .pick (.t 8) (.t 11) (.c (.g (.bool false)))⟩,
    ⟨(some 13), none, .mov (.t 12)⟩,
    ⟨(some 14), (some (13, true)), .faddr 1 (.t 1)⟩,
    ⟨(some 15), (some (13, true)), .load false 1 (.t 14)⟩,
    ⟨(some 16), (some (13, true)), .bin .leq (.t 15) (.c (.g (.int .i64 4)))⟩,
    ⟨(some 17), none, .pick (.t 13) (.t 16) (.c (.g (.bool false)))⟩,
    ⟨(some 18), none, .mov (.t 17)⟩,
    ⟨(some 19), (some (18, true)), .faddr 2 (.t 1)⟩,
    ⟨(some 20), (some (18, true)), .load false 1 (.t 19)⟩,
    ⟨(some 21), (some (18, true)), .bin .geq (.t 20) (.c (.g (.int .i64 1)))⟩,
    ⟨(some 22), none, .pick (.t 18) (.t 21) (.c (.g (.bool false)))⟩,
    ⟨(some 23), none, .mov (.t 22)⟩,
    ⟨(some 24), (some (23, true)), .faddr 2 (.t 1)⟩,
    ⟨(some 25), (some (23, true)), .load false 1 (.t 24)⟩,
    ⟨(some 26), (some (23, true)), .bin .leq (.t 25) (.c (.g (.int .i64 3)))⟩,
    ⟨(some 27), none, .pick (.t 23) (.t 26) (.c (.g (.bool false)))⟩,
    ⟨(some 28), none, .mov (.t 27)⟩,
    ⟨(some 29), (some (28, true)), .faddr 3 (.t 1)⟩,
    ⟨(some 30), (some (28, true)), .load false 1 (.t 29)⟩,
    ⟨(some 31), (some (28, true)), .bslice 1 1 [.int .i64 0] [(0, 1, (.t 30))]⟩,
    ⟨(some 32), (some (28, true)), .call (.c (.g (.fn 71))) [(.t 31)]⟩,
    ⟨(some 33), none, .pick (.t 28) (.t 32) (.c (.g (.bool false)))⟩,
    ⟨(some 2), none, .mov (.t 33)⟩]) <|
 .ret⟩
def h73 : List (List Nat) := [[1], [2]]
theorem c73 : cFunc Try.prog 73 false h73 = some F73 := by kernel_rfl

/-- baton/wire.all[baton/api.Mut] -/
def F74 : IFunc := ⟨3, 17, [.tmp 6], false,
 .seq (.reg [0, 1, 5] [⟨(some 5), none, .box (.t 2)⟩,
    ⟨(some 6), none, .mov (.c (.g (.bool false)))⟩]) <|
 .seq (.reg [6] [⟨(some 7), none, .mov (.t 0)⟩,
    ⟨(some 8), none, .len (.t 7)⟩,
    ⟨(some 9), none, .mov (.t 1)⟩,
    ⟨(some 10), none, .bin .leq (.t 8) (.t 9)⟩,
    ⟨(some 11), none, .mov (.t 10)⟩,
    ⟨(some 12), (some (11, true)), .mov (.t 0)⟩,
    ⟨(some 13), (some (11, true)), .mkfn 99 [(.t 5)]⟩,
    ⟨(some 14), (some (11, true)), .call (.c (.g (.fn 98))) [(.t 12), (.t 13)]⟩,
    ⟨(some 15), (some (11, true)), .un .not (.t 14)⟩,
    ⟨(some 16), none, .pick (.t 11) (.t 15) (.c (.g (.bool false)))⟩,
    ⟨(some 6), none, .mov (.t 16)⟩]) <|
 .ret⟩
def h74 : List (List Nat) := [[0, 1, 5], [6]]
theorem c74 : cFunc Try.prog 74 false h74 = some F74 := by kernel_rfl

/-- baton/wire.mayMut -/
def F75 : IFunc := ⟨1, 14, [.tmp 2], false,
 .seq (.reg [1] [⟨(some 1), none, .box (.t 0)⟩,
    ⟨(some 2), none, .mov (.c (.g (.bool false)))⟩]) <|
 .seq (.reg [2] [⟨(some 3), none, .faddr 1 (.t 1)⟩,
    ⟨(some 4), none, .load false 1 (.t 3)⟩,
    ⟨(some 5), none, .faddr 2 (.t 1)⟩,
    ⟨(some 6), none, .load false 1 (.t 5)⟩,
    ⟨(some 7), none, .call (.c (.g (.fn 70))) [(.t 4), (.t 6)]⟩,
    ⟨(some 8), none, .mov (.t 7)⟩,
    ⟨(some 9), (some (8, true)), .faddr 3 (.t 1)⟩,
    ⟨(some 10), (some (8, true)), .load false 1 (.t 9)⟩,
    ⟨(some 11), (some (8, true)), .bslice 1 1 [.int .i64 0] [(0, 1, (.t 10))]⟩,
    ⟨(some 12), (some (8, true)), .call (.c (.g (.fn 71))) [(.t 11)]⟩,
    ⟨(some 13), none, .pick (.t 8) (.t 12) (.c (.g (.bool false)))⟩,
    ⟨(some 2), none, .mov (.t 13)⟩]) <|
 .ret⟩
def h75 : List (List Nat) := [[1], [2]]
theorem c75 : cFunc Try.prog 75 false h75 = some F75 := by kernel_rfl

/-- (*baton/wire.writer).n -/
def L76_0 : IC :=
 .seq (.reg [0, 6, 7, 8, 9] [⟨(some 9), none, .bin .lss (.t 8) (.t 7)⟩]) <|
 .seq (.cond [0, 6, 7, 8] (.t 9)
   (.skip)
   (.exit 0)) <|
 .seq (.block [0, 6, 7, 8] 1 <|
  .seq (.reg [0, 5, 6, 7, 8] [⟨(some 10), none, .iaddr 1 (.t 6) (.t 8)⟩,
     ⟨(some 11), none, .load false 1 (.t 10)⟩,
     ⟨(some 5), none, .mov (.t 11)⟩]) <|
  .drw [0, 6, 7, 8] 0 <|
  .free <|
  .take ⟨(some 12), none, .mov (.t 0)⟩ <|
  .take ⟨(some 13), none, .nilchk (.t 12)⟩ <|
  .take ⟨(some 14), none, .faddr 0 (.t 13)⟩ <|
  .take ⟨(some 15), none, .mov (.t 5)⟩ <|
  .take ⟨(some 16), none, .conv .u64 (.t 15)⟩ <|
  .one ⟨(some 17), none, .call (.c (.g (.fn 101))) [(.t 16)]⟩ <|
  .one ⟨(some 18), none, .call (.c (.g (.fn 100))) [(.t 14), (.t 17)]⟩ <|
  .leaf) <|
 .reg [0, 6, 7, 8] [⟨(some 19), none, .bin .add (.t 8) (.c (.g (.int .i64 1)))⟩,
   ⟨(some 8), none, .mov (.t 19)⟩]
def F76 : IFunc := ⟨2, 20, [], false,
 .seq (.reg [0, 6, 7, 8] [⟨(some 6), none, .mov (.t 1)⟩,
    ⟨(some 7), none, .len (.t 6)⟩,
    ⟨(some 8), none, .mov (.c (.g (.int .i64 0)))⟩]) <|
 .block [] 0 <|
 .loop [0, 6, 7, 8] [] L76_0⟩
def h76 : List (List Nat) := [[0, 6, 7, 8], [], [0, 6, 7, 8], [0, 6, 7, 8, 9], [0, 6, 7, 8], [0, 6, 7, 8], [0, 5, 6, 7, 8], [0, 6, 7, 8], [], [0, 6, 7, 8]]
theorem c76 : cFunc Try.prog 76 false h76 = some F76 := by kernel_rfl

/-- (*baton/wire.writer).b -/
def F77 : IFunc := ⟨2, 11, [], false,
 .seq (.reg [0, 4] [⟨(some 4), none, .mov (.t 1)⟩]) <|
 .cond [] (.t 4)
  (.reg [] [⟨(some 5), none, .mov (.t 0)⟩,
     ⟨(some 6), none, .bslice 1 1 [.int .i64 0] [(0, 1, (.c (.g (.int .i64 1))))]⟩,
     ⟨(some 7), none, .call (.c (.g (.fn 76))) [(.t 5), (.t 6)]⟩])
  (.reg [] [⟨(some 8), none, .mov (.t 0)⟩,
     ⟨(some 9), none, .bslice 1 1 [.int .i64 0] [(0, 1, (.c (.g (.int .i64 0))))]⟩,
     ⟨(some 10), none, .call (.c (.g (.fn 76))) [(.t 8), (.t 9)]⟩])⟩
def h77 : List (List Nat) := [[0, 4], [], [], []]
theorem c77 : cFunc Try.prog 77 false h77 = some F77 := by kernel_rfl

/-- (*baton/wire.writer).t -/
def L78_0 : IC :=
 .seq (.reg [0, 6, 7, 8, 9] [⟨(some 9), none, .bin .lss (.t 8) (.t 7)⟩]) <|
 .seq (.cond [0, 6, 7, 8] (.t 9)
   (.skip)
   (.exit 0)) <|
 .seq (.block [0, 6, 7, 8] 1 <|
  .seq (.reg [0, 5, 6, 7, 8] [⟨(some 10), none, .iaddr 1 (.t 6) (.t 8)⟩,
     ⟨(some 11), none, .load false 1 (.t 10)⟩,
     ⟨(some 5), none, .mov (.t 11)⟩]) <|
  .seq (.reg [0, 5, 6, 7, 8] [⟨(some 12), none, .mov (.t 0)⟩,
     ⟨(some 13), none, .mov (.t 5)⟩,
     ⟨(some 14), none, .lenS (.t 13)⟩,
     ⟨(some 15), none, .bslice 1 1 [.int .i64 0] [(0, 1, (.t 14))]⟩,
     ⟨(some 16), none, .call (.c (.g (.fn 76))) [(.t 12), (.t 15)]⟩]) <|
  .reg [0, 6, 7, 8] [⟨(some 17), none, .mov (.t 0)⟩,
    ⟨(some 18), none, .nilchk (.t 17)⟩,
    ⟨(some 19), none, .faddr 0 (.t 18)⟩,
    ⟨(some 20), none, .mov (.t 5)⟩,
    ⟨(some 21), none, .call (.c (.g (.fn 100))) [(.t 19), (.t 20)]⟩]) <|
 .reg [0, 6, 7, 8] [⟨(some 22), none, .bin .add (.t 8) (.c (.g (.int .i64 1)))⟩,
   ⟨(some 8), none, .mov (.t 22)⟩]
def F78 : IFunc := ⟨2, 23, [], false,
 .seq (.reg [0, 6, 7, 8] [⟨(some 6), none, .mov (.t 1)⟩,
    ⟨(some 7), none, .len (.t 6)⟩,
    ⟨(some 8), none, .mov (.c (.g (.int .i64 0)))⟩]) <|
 .block [] 0 <|
 .loop [0, 6, 7, 8] [] L78_0⟩
def h78 : List (List Nat) := [[0, 6, 7, 8], [], [0, 6, 7, 8], [0, 6, 7, 8, 9], [0, 6, 7, 8], [0, 6, 7, 8], [0, 5, 6, 7, 8], [0, 5, 6, 7, 8], [0, 6, 7, 8], [0, 6, 7, 8]]
theorem c78 : cFunc Try.prog 78 false h78 = some F78 := by kernel_rfl

/-- (*baton/wire.writer).muts -/
def L79_0 : IC :=
 .seq (.reg [0, 11, 12, 13, 14] [⟨(some 14), none, .bin .lss (.t 13) (.t 12)⟩]) <|
 .seq (.cond [0, 11, 12, 13] (.t 14)
   (.skip)
   (.exit 0)) <|
 .seq (.block [0, 11, 12, 13] 1 <|
  .seq (.reg [0, 5, 11, 12, 13] [⟨(some 15), none, .iaddr 4 (.t 11) (.t 13)⟩,
     ⟨(some 16), none, .load true 4 (.t 15)⟩,
     ⟨(some 5), none, .alloc [.z (.bool false), .z (.str []), .z (.str []), .z (.int .i64 0)]⟩,
     ⟨none, none, .store 4 (.t 5) (.t 16)⟩]) <|
  .seq (.reg [0, 5, 11, 12, 13] [⟨(some 17), none, .mov (.t 0)⟩,
     ⟨(some 18), none, .faddr 0 (.t 5)⟩,
     ⟨(some 19), none, .load false 1 (.t 18)⟩,
     ⟨(some 20), none, .call (.c (.g (.fn 77))) [(.t 17), (.t 19)]⟩]) <|
  .seq (.reg [0, 5, 11, 12, 13] [⟨(some 21), none, .mov (.t 0)⟩,
     ⟨(some 22), none, .faddr 1 (.t 5)⟩,
     ⟨(some 23), none, .load false 1 (.t 22)⟩,
     ⟨(some 24), none, .faddr 2 (.t 5)⟩,
     ⟨(some 25), none, .load false 1 (.t 24)⟩,
     ⟨(some 26), none, .bslice 1 2 [.str []] [(0, 1, (.t 23)), (1, 1, (.t 25))]⟩,
     ⟨(some 27), none, .call (.c (.g (.fn 78))) [(.t 21), (.t 26)]⟩]) <|
  .reg [0, 11, 12, 13] [⟨(some 28), none, .mov (.t 0)⟩,
    ⟨(some 29), none, .faddr 3 (.t 5)⟩,
    ⟨(some 30), none, .load false 1 (.t 29)⟩,
    ⟨(some 31), none, .bslice 1 1 [.int .i64 0] [(0, 1, (.t 30))]⟩,
    ⟨(some 32), none, .call (.c (.g (.fn 76))) [(.t 28), (.t 31)]⟩]) <|
 .reg [0, 11, 12, 13] [⟨(some 33), none, .bin .add (.t 13) (.c (.g (.int .i64 1)))⟩,
   ⟨(some 13), none, .mov (.t 33)⟩]
def F79 : IFunc := ⟨2, 34, [], false,
 .seq (.reg [0, 1] [⟨(some 6), none, .mov (.t 0)⟩,
    ⟨(some 7), none, .mov (.t 1)⟩,
    ⟨(some 8), none, .len (.t 7)⟩,
    ⟨(some 9), none, .bslice 1 1 [.int .i64 0] [(0, 1, (.t 8))]⟩,
    ⟨(some 10), none, .call (.c (.g (.fn 76))) [(.t 6), (.t 9)]⟩]) <|
 .seq (.reg [0, 11, 12, 13] [⟨(some 11), none, .mov (.t 1)⟩,
    ⟨(some 12), none, .len (.t 11)⟩,
    ⟨(some 13), none, .mov (.c (.g (.int .i64 0)))⟩]) <|
 .block [] 0 <|
 .loop [0, 11, 12, 13] [] L79_0⟩
def h79 : List (List Nat) := [[0, 1], [0, 11, 12, 13], [], [0, 11, 12, 13], [0, 11, 12, 13, 14], [0, 11, 12, 13], [0, 11, 12, 13], [0, 5, 11, 12, 13], [0, 5, 11, 12, 13], [0, 5, 11, 12, 13], [0, 11, 12, 13], [0, 11, 12, 13]]
theorem c79 : cFunc Try.prog 79 false h79 = some F79 := by kernel_rfl

/-- (*strings.Builder).String -/
def F80 : IFunc := ⟨1, 14, [.tmp 2], false,
 .seq (.reg [0] [⟨(some 2), none, .mov (.c (.g (.str [])))⟩]) <|
 .seq (.drw [2] 0 <|
  .take ⟨(some 3), none, .mov (.t 0)⟩ <|
  .take ⟨(some 4), none, .nilchk (.t 3)⟩ <|
  .take ⟨(some 5), none, .faddr 1 (.t 4)⟩ <|
  .take ⟨(some 6), none, .load false 1 (.t 5)⟩ <|
  .take ⟨(some 8), none, .mov (.t 0)⟩ <|
  .take ⟨(some 9), none, .nilchk (.t 8)⟩ <|
  .take ⟨(some 10), none, .faddr 1 (.t 9)⟩ <|
  .take ⟨(some 11), none, .load false 1 (.t 10)⟩ <|
  .take ⟨(some 12), none, .len (.t 11)⟩ <|
  .one ⟨(some 7), none, .sdata (.t 6)⟩ <|
  .one ⟨(some 13), none, .ustr 5 (.t 7) (.t 12)⟩ <|
  .free <|
  .take ⟨(some 2), none, .mov (.t 13)⟩ <|
  .leaf) <|
 .ret⟩
def h80 : List (List Nat) := [[0], [2], []]
theorem c80 : cFunc Try.prog 80 false h80 = some F80 := by kernel_rfl

/-- baton/sess.Due -/
def F81 : IFunc := ⟨2, 14, [.tmp 4], false,
 .seq (.reg [1, 2] [⟨(some 2), none, .box (.t 0)⟩,
    ⟨(some 4), none, .mov (.c (.g (.bool false)))⟩]) <|
 .seq (.reg [4] [⟨(some 5), none, .load true 4 (.t 2)⟩,
    ⟨(some 6), none, .mov (.t 1)⟩,
    ⟨(some 7), none, .call (.c (.g (.fn 59))) [(.t 5), (.t 6)]⟩,
    ⟨(some 8), none, .mov (.t 7)⟩,
    ⟨(some 9), (some (8, true)), .mov (.t 1)⟩,
    ⟨(some 10), (some (8, true)), .faddr 3 (.t 2)⟩,
    ⟨(some 11), (some (8, true)), .load false 1 (.t 10)⟩,
    ⟨(some 12), (some (8, true)), .bin .geq (.t 9) (.t 11)⟩,
    ⟨(some 13), none, .pick (.t 8) (.t 12) (.c (.g (.bool false)))⟩,
    ⟨(some 4), none, .mov (.t 13)⟩]) <|
 .ret⟩
def h81 : List (List Nat) := [[1, 2], [4]]
theorem c81 : cFunc Try.prog 81 false h81 = some F81 := by kernel_rfl

/-- baton/sess.Asks -/
def F82 : IFunc := ⟨1, 5, [.cell 2 true 13], false,
 .seq (.reg [0, 2] [⟨(some 2), none, .alloc [.z (.int .i64 0), .z (.int .i64 0), .z (.int .i64 0), .z (.bool false), .z (.str []), .z (.str []), .z (.int .i64 0), .z (.int .i64 0), .z (.int .i64 0), .z (.int .i64 0), .s 5, .s 4, .s 4]⟩]) <|
 .seq (.reg [2] [⟨(some 3), none, .mov (.t 0)⟩,
    ⟨(some 4), none, .build [.g (.int .i64 0), .g (.int .i64 0), .g (.int .i64 0), .g (.bool false), .g (.str []), .g (.str []), .g (.int .i64 0), .g (.int .i64 0), .g (.int .i64 0), .g (.int .i64 0), .g (.nsl), .g (.nsl), .g (.nsl)] [(0, 1, (.c (.g (.int .i64 4)))), (3, 1, (.c (.g (.bool true)))), (8, 1, (.t 3))]⟩,
    ⟨none, none, .store 13 (.t 2) (.t 4)⟩]) <|
 .ret⟩
def h82 : List (List Nat) := [[0, 2], [2]]
theorem c82 : cFunc Try.prog 82 false h82 = some F82 := by kernel_rfl

/-- baton/sess.Keeps -/
def F83 : IFunc := ⟨1, 6, [.cell 2 true 13], false,
 .seq (.reg [1, 2] [⟨(some 1), none, .box (.t 0)⟩,
    ⟨(some 2), none, .alloc [.z (.int .i64 0), .z (.int .i64 0), .z (.int .i64 0), .z (.bool false), .z (.str []), .z (.str []), .z (.int .i64 0), .z (.int .i64 0), .z (.int .i64 0), .z (.int .i64 0), .s 5, .s 4, .s 4]⟩]) <|
 .seq (.reg [2] [⟨(some 3), none, .faddr 0 (.t 1)⟩,
    ⟨(some 4), none, .load false 1 (.t 3)⟩,
    ⟨(some 5), none, .build [.g (.int .i64 0), .g (.int .i64 0), .g (.int .i64 0), .g (.bool false), .g (.str []), .g (.str []), .g (.int .i64 0), .g (.int .i64 0), .g (.int .i64 0), .g (.int .i64 0), .g (.nsl), .g (.nsl), .g (.nsl)] [(0, 1, (.c (.g (.int .i64 5)))), (6, 1, (.t 4))]⟩,
    ⟨none, none, .store 13 (.t 2) (.t 5)⟩]) <|
 .ret⟩
def h83 : List (List Nat) := [[1, 2], [2]]
theorem c83 : cFunc Try.prog 83 false h83 = some F83 := by kernel_rfl

/-- baton/sess.of -/
def F84 : IFunc := ⟨2, 9, [.cell 4 true 2], false,
 .seq (.reg [0, 1, 4] [⟨(some 4), none, .alloc [.z (.int .i64 0), .z (.int .i64 0)]⟩]) <|
 .seq (.reg [4] [⟨(some 5), none, .mov (.t 0)⟩,
    ⟨(some 6), none, .call (.c (.g (.fn 102))) [(.t 5)]⟩,
    ⟨(some 7), none, .mov (.t 1)⟩,
    ⟨(some 8), none, .build [.g (.int .i64 0), .g (.int .i64 0)] [(0, 1, (.t 6)), (1, 1, (.t 7))]⟩,
    ⟨none, none, .store 2 (.t 4) (.t 8)⟩]) <|
 .ret⟩
def h84 : List (List Nat) := [[0, 1, 4], [4]]
theorem c84 : cFunc Try.prog 84 false h84 = some F84 := by kernel_rfl

/-- (baton/sess.span).may -/
def F85 : IFunc := ⟨1, 16, [.tmp 2], false,
 .seq (.reg [1] [⟨(some 1), none, .box (.t 0)⟩,
    ⟨(some 2), none, .mov (.c (.g (.bool false)))⟩]) <|
 .seq (.reg [2] [⟨(some 3), none, .faddr 0 (.t 1)⟩,
    ⟨(some 4), none, .load false 1 (.t 3)⟩,
    ⟨(some 5), none, .bin .gtr (.t 4) (.c (.g (.int .i64 0)))⟩,
    ⟨(some 6), none, .mov (.t 5)⟩,
    ⟨(some 7), (some (6, true)), .faddr 1 (.t 1)⟩,
    ⟨(some 8), (some (6, true)), .load false 1 (.t 7)⟩,
    ⟨(some 9), (some (6, true)), .bin .geq (.t 8) (.c (.g (.int .i64 0)))⟩,
    ⟨(some 10), none, .pick (.t 6) (.t 9) (.c (.g (.bool false)))⟩,
    ⟨(some 11), none, .mov (.t 10)⟩,
    ⟨(some 12), (some (11, true)), .faddr 1 (.t 1)⟩,
    ⟨(some 13), (some (11, true)), .load false 1 (.t 12)⟩,
    ⟨(some 14), (some (11, true)), .bin .leq (.t 13) (.c (.g (.int .i64 1099511627775)))⟩,
    ⟨(some 15), none, .pick (.t 11) (.t 14) (.c (.g (.bool false)))⟩,
    ⟨(some 2), none, .mov (.t 15)⟩]) <|
 .ret⟩
def h85 : List (List Nat) := [[1], [2]]
theorem c85 : cFunc Try.prog 85 false h85 = some F85 := by kernel_rfl

/-- (baton/sess.safe).end -/
def F86 : IFunc := ⟨2, 8, [.tmp 4], false,
 .seq (.reg [0, 1] [⟨(some 4), none, .mov (.c (.g (.int .i64 0)))⟩]) <|
 .seq (.reg [4] [⟨(some 5), none, .mov (.t 1)⟩,
    ⟨(some 6), none, .mov (.t 0)⟩,
    ⟨(some 7), none, .bin .add (.t 5) (.t 6)⟩,
    ⟨(some 4), none, .mov (.t 7)⟩]) <|
 .ret⟩
def h86 : List (List Nat) := [[0, 1], [4]]
theorem c86 : cFunc Try.prog 86 false h86 = some F86 := by kernel_rfl

/-- (baton/sess.safe).half -/
def F87 : IFunc := ⟨2, 9, [.tmp 4], false,
 .seq (.reg [0, 1] [⟨(some 4), none, .mov (.c (.g (.int .i64 0)))⟩]) <|
 .seq (.reg [4] [⟨(some 5), none, .mov (.t 1)⟩,
    ⟨(some 6), none, .mov (.t 0)⟩,
    ⟨(some 7), none, .bin .shr (.t 6) (.c (.g (.int .u64 1)))⟩,
    ⟨(some 8), none, .bin .add (.t 5) (.t 7)⟩,
    ⟨(some 4), none, .mov (.t 8)⟩]) <|
 .ret⟩
def h87 : List (List Nat) := [[0, 1], [4]]
theorem c87 : cFunc Try.prog 87 false h87 = some F87 := by kernel_rfl

/-- slices.Grow[[]baton/api.Lease,baton/api.Lease] -/
def F88 : IFunc := ⟨2, 27, [.tmp 4], true,
 .seq (.reg [0, 1] [⟨(some 4), none, .nres 3⟩]) <|
 .seq (.seq (.reg [0, 1, 6] [⟨(some 5), none, .mov (.t 1)⟩,
     ⟨(some 6), none, .bin .lss (.t 5) (.c (.g (.int .i64 0)))⟩]) <|
  .cond [0, 1] (.t 6)
   (.reg [0, 1] [⟨(some 7), none, .mkif 9 (.c (.g (.str [99, 97, 110, 110, 111, 116, 32, 98, 101, 32, 110, 101, 103, 97, 116, 105, 118, 101])))⟩,
      ⟨none, none, .row 0 []⟩])
   (.skip)) <|
 .seq (.seq (.reg [0, 1] [⟨(some 8), none, .mov (.t 1)⟩,
     ⟨(some 9), none, .mov (.t 0)⟩,
     ⟨(some 10), none, .cap (.t 9)⟩,
     ⟨(some 11), none, .mov (.t 0)⟩,
     ⟨(some 12), none, .len (.t 11)⟩,
     ⟨(some 13), none, .bin .sub (.t 10) (.t 12)⟩,
     ⟨(some 14), none, .bin .sub (.t 8) (.t 13)⟩,
     ⟨(some 1), none, .mov (.t 14)⟩]) <|
  .seq (.reg [0, 1, 16] [⟨(some 15), none, .mov (.t 1)⟩,
     ⟨(some 16), none, .bin .gtr (.t 15) (.c (.g (.int .i64 0)))⟩]) <|
  .cond [0] (.t 16)
   (.reg [0] [⟨(some 17), none, .mov (.t 0)⟩,
      ⟨(some 18), none, .mov (.t 0)⟩,
      ⟨(some 19), none, .cap (.t 18)⟩,
      ⟨(some 20), none, .slc 3 (.t 17) none (some (.t 19))⟩,
      ⟨(some 21), none, .mov (.t 1)⟩,
      ⟨(some 22), none, .appZ 3 24 [.int .i64 0, .int .i64 0, .int .i64 0] (.t 20) (.t 21)⟩,
      ⟨(some 23), none, .mov (.t 0)⟩,
      ⟨(some 24), none, .len (.t 23)⟩,
      ⟨(some 25), none, .slc 3 (.t 22) none (some (.t 24))⟩,
      ⟨(some 0), none, .mov (.t 25)⟩])
   (.skip)) <|
 .seq (.reg [4] [⟨(some 26), none, .mov (.t 0)⟩,
    ⟨(some 4), none, .mov (.t 26)⟩]) <|
 .ret⟩
def h88 : List (List Nat) := [[0, 1], [0, 1, 6], [0, 1], [0, 1], [0, 1], [0, 1, 16], [0], [0], [4]]
theorem c88 : cFunc Try.prog 88 true h88 = some F88 := by kernel_rfl

/-- baton/batonref03.MayAsk -/
def L89_0 : IC :=
 .seq (.seq (.reg [1, 3, 69] [⟨(some 64), none, .mov (.t 3)⟩,
     ⟨(some 65), none, .faddr 10 (.t 1)⟩,
     ⟨(some 66), none, .faddr 0 (.t 65)⟩,
     ⟨(some 67), none, .load false 1 (.t 66)⟩,
     ⟨(some 68), none, .len (.t 67)⟩,
     ⟨(some 69), none, .bin .lss (.t 64) (.t 68)⟩]) <|
  .cond [1, 3] (.t 69)
   (.skip)
   (.exit 0)) <|
 .seq (.block [1, 3] 1 <|
  .seq (.reg [1, 3, 4] [⟨(some 72), none, .faddr 10 (.t 1)⟩,
     ⟨(some 73), none, .faddr 0 (.t 72)⟩,
     ⟨(some 74), none, .load false 1 (.t 73)⟩,
     ⟨(some 75), none, .mov (.t 3)⟩,
     ⟨(some 76), none, .iaddr 5 (.t 74) (.t 75)⟩,
     ⟨(some 77), none, .load true 5 (.t 76)⟩,
     ⟨(some 4), none, .alloc [.z (.str []), .z (.int .i64 0), .z (.int .i64 0), .z (.int .i64 0), .z (.str [])]⟩,
     ⟨none, none, .store 5 (.t 4) (.t 77)⟩]) <|
  .seq (.reg [1, 3, 109] [⟨(some 78), none, .faddr 0 (.t 4)⟩,
     ⟨(some 79), none, .load false 1 (.t 78)⟩,
     ⟨(some 80), none, .faddr 4 (.t 4)⟩,
     ⟨(some 81), none, .load false 1 (.t 80)⟩,
     ⟨(some 82), none, .call (.c (.g (.fn 104))) [(.t 79), (.t 81)]⟩,
     ⟨(some 83), none, .un .not (.t 82)⟩,
     ⟨(some 84), none, .mov (.t 83)⟩,
     ⟨(some 85), (some (84, false)), .faddr 1 (.t 4)⟩,
     ⟨(some 86), (some (84, false)), .load false 1 (.t 85)⟩,
     ⟨(some 87), (some (84, false)), .bin .lss (.t 86) (.c (.g (.int .i64 1)))⟩,
     ⟨(some 88), none, .pick (.t 84) (.c (.g (.bool true))) (.t 87)⟩,
     ⟨(some 89), none, .mov (.t 88)⟩,
     ⟨(some 90), (some (89, false)), .faddr 1 (.t 4)⟩,
     ⟨(some 91), (some (89, false)), .load false 1 (.t 90)⟩,
     ⟨(some 92), (some (89, false)), .bin .gtr (.t 91) (.c (.g (.int .i64 4)))⟩,
     ⟨(some 93), none, .pick (.t 89) (.c (.g (.bool true))) (.t 92)⟩,
     ⟨(some 94), none, .mov (.t 93)⟩,
     ⟨(some 95), (some (94, false)), .faddr 2 (.t 4)⟩,
     ⟨(some 96), (some (94, false)), .load false 1 (.t 95)⟩,
     ⟨(some 97), (some (94, false)), .bin .lss (.t 96) (.c (.g (.int .i64 1)))⟩,
     ⟨(some 98), none, .pick (.t 94) (.c (.g (.bool true))) (.t 97)⟩,
     ⟨(some 99), none, .mov (.t 98)⟩,
     ⟨(some 100), (some (99, false)), .faddr 2 (.t 4)⟩,
     ⟨(some 101), (some (99, false)), .load false 1 (.t 100)⟩,
     ⟨(some 102), (some (99, false)), .bin .gtr (.t 101) (.c (.g (.int .i64 3)))⟩,
     ⟨(some 103), none, .pick (.t 99) (.c (.g (.bool true))) (.t 102)⟩,
     ⟨(some 104), none, .mov (.t 103)⟩,
     ⟨(some 105), (some (104, false)), .faddr 3 (.t 4)⟩,
     ⟨(some 106), (some (104, false)), .load false 1 (.t 105)⟩,
     ⟨(some 107), (some (104, false)), .call (.c (.g (.fn 103))) [(.t 106)]⟩,
     ⟨(some 108), (some (104, false)), .un .not (.t 107)⟩,
     ⟨(some 109), none, .pick (.t 104) (.c (.g (.bool true))) (.t 108)⟩]) <|
  .cond [1, 3] (.t 109)
   (.seq (.reg [2] [⟨(some 2), none, .mov (.c (.g (.bool false)))⟩]) <|
    .ret)
   (.skip)) <|
 .reg [1, 3] [⟨(some 70), none, .mov (.t 3)⟩,
   ⟨(some 71), none, .bin .add (.t 70) (.c (.g (.int .i64 1)))⟩,
   ⟨(some 3), none, .mov (.t 71)⟩]
def F89 : IFunc := ⟨1, 120, [.tmp 2], false,
 .seq (.reg [1] [⟨(some 1), none, .box (.t 0)⟩,
    ⟨(some 2), none, .mov (.c (.g (.bool false)))⟩]) <|
 .seq (.seq (.reg [1, 63] [⟨(some 5), none, .faddr 0 (.t 1)⟩,
     ⟨(some 6), none, .load false 1 (.t 5)⟩,
     ⟨(some 7), none, .bin .lss (.t 6) (.c (.g (.int .i64 1)))⟩,
     ⟨(some 8), none, .mov (.t 7)⟩,
     ⟨(some 9), (some (8, false)), .faddr 0 (.t 1)⟩,
     ⟨(some 10), (some (8, false)), .load false 1 (.t 9)⟩,
     ⟨(some 11), (some (8, false)), .bin .gtr (.t 10) (.c (.g (.int .i64 8)))⟩,
     ⟨(some 12), none, .pick (.t 8) (.c (.g (.bool true))) (.t 11)⟩,
     ⟨(some 13), none, .mov (.t 12)⟩,
     ⟨(some 14), (some (13, false)), .faddr 1 (.t 1)⟩,
     ⟨(some 15), (some (13, false)), .load false 1 (.t 14)⟩,
     ⟨(some 16), (some (13, false)), .call (.c (.g (.fn 103))) [(.t 15)]⟩,
     ⟨(some 17), (some (13, false)), .un .not (.t 16)⟩,
     ⟨(some 18), none, .pick (.t 13) (.c (.g (.bool true))) (.t 17)⟩,
     ⟨(some 19), none, .mov (.t 18)⟩,
     ⟨(some 20), (some (19, false)), .faddr 2 (.t 1)⟩,
     ⟨(some 21), (some (19, false)), .load false 1 (.t 20)⟩,
     ⟨(some 22), (some (19, false)), .call (.c (.g (.fn 103))) [(.t 21)]⟩,
     ⟨(some 23), (some (19, false)), .un .not (.t 22)⟩,
     ⟨(some 24), none, .pick (.t 19) (.c (.g (.bool true))) (.t 23)⟩,
     ⟨(some 25), none, .mov (.t 24)⟩,
     ⟨(some 26), (some (25, false)), .faddr 6 (.t 1)⟩,
     ⟨(some 27), (some (25, false)), .load false 1 (.t 26)⟩,
     ⟨(some 28), (some (25, false)), .call (.c (.g (.fn 103))) [(.t 27)]⟩,
     ⟨(some 29), (some (25, false)), .un .not (.t 28)⟩,
     ⟨(some 30), none, .pick (.t 25) (.c (.g (.bool true))) (.t 29)⟩,
     ⟨(some 31), none, .mov (.t 30)⟩,
     ⟨(some 32), (some (31, false)), .faddr 7 (.t 1)⟩,
     ⟨(some 33), (some (31, false)), .load false 1 (.t 32)⟩,
     ⟨(some 34), (some (31, false)), .call (.c (.g (.fn 103))) [(.t 33)]⟩,
     ⟨(some 35), (some (31, false)), .un .not (.t 34)⟩,
     ⟨(some 36), none, .pick (.t 31) (.c (.g (.bool true))) (.t 35)⟩,
     ⟨(some 37), none, .mov (.t 36)⟩,
     ⟨(some 38), (some (37, false)), .faddr 8 (.t 1)⟩,
     ⟨(some 39), (some (37, false)), .load false 1 (.t 38)⟩,
     ⟨(some 40), (some (37, false)), .call (.c (.g (.fn 103))) [(.t 39)]⟩,
     ⟨(some 41), (some (37, false)), .un .not (.t 40)⟩,
     ⟨(some 42), none, .pick (.t 37) (.c (.g (.bool true))) (.t 41)⟩,
     ⟨(some 43), none, .mov (.t 42)⟩,
     ⟨(some 44), (some (43, false)), .faddr 9 (.t 1)⟩,
     ⟨(some 45), (some (43, false)), .load false 1 (.t 44)⟩,
     ⟨(some 46), (some (43, false)), .call (.c (.g (.fn 103))) [(.t 45)]⟩,
     ⟨(some 47), (some (43, false)), .un .not (.t 46)⟩,
     ⟨(some 48), none, .pick (.t 43) (.c (.g (.bool true))) (.t 47)⟩,
     ⟨(some 49), none, .mov (.t 48)⟩,
     ⟨(some 50), (some (49, false)), .faddr 4 (.t 1)⟩,
     ⟨(some 51), (some (49, false)), .load false 1 (.t 50)⟩,
     ⟨(some 52), (some (49, false)), .faddr 5 (.t 1)⟩,
     ⟨(some 53), (some (49, false)), .load false 1 (.t 52)⟩,
     ⟨(some 54), (some (49, false)), .call (.c (.g (.fn 104))) [(.t 51), (.t 53)]⟩,
     ⟨(some 55), (some (49, false)), .un .not (.t 54)⟩,
     ⟨(some 56), none, .pick (.t 49) (.c (.g (.bool true))) (.t 55)⟩,
     ⟨(some 57), none, .mov (.t 56)⟩,
     ⟨(some 58), (some (57, false)), .faddr 10 (.t 1)⟩,
     ⟨(some 59), (some (57, false)), .faddr 0 (.t 58)⟩,
     ⟨(some 60), (some (57, false)), .load false 1 (.t 59)⟩,
     ⟨(some 61), (some (57, false)), .len (.t 60)⟩,
     ⟨(some 62), (some (57, false)), .bin .gtr (.t 61) (.c (.g (.int .i64 4)))⟩,
     ⟨(some 63), none, .pick (.t 57) (.c (.g (.bool true))) (.t 62)⟩]) <|
  .cond [1] (.t 63)
   (.seq (.reg [2] [⟨(some 2), none, .mov (.c (.g (.bool false)))⟩]) <|
    .ret)
   (.skip)) <|
 .seq (.seq (.reg [1, 3] [⟨(some 3), none, .mov (.c (.g (.int .i64 0)))⟩]) <|
  .block [1] 0 <|
  .loop [1, 3] [] L89_0) <|
 .seq (.reg [2] [⟨(some 110), none, .faddr 10 (.t 1)⟩,
    ⟨(some 111), none, .faddr 1 (.t 110)⟩,
    ⟨(some 112), none, .load false 1 (.t 111)⟩,
    ⟨(some 113), none, .call (.c (.g (.fn 105))) [(.t 112)]⟩,
    ⟨(some 114), none, .mov (.t 113)⟩,
    ⟨(some 115), (some (114, true)), .faddr 10 (.t 1)⟩,
    ⟨(some 116), (some (114, true)), .faddr 2 (.t 115)⟩,
    ⟨(some 117), (some (114, true)), .load false 1 (.t 116)⟩,
    ⟨(some 118), (some (114, true)), .call (.c (.g (.fn 105))) [(.t 117)]⟩,
    ⟨(some 119), none, .pick (.t 114) (.t 118) (.c (.g (.bool false)))⟩,
    ⟨(some 2), none, .mov (.t 119)⟩]) <|
 .ret⟩
def h89 : List (List Nat) := [[1], [1, 63], [1], [2], [1, 3], [1], [1, 3], [1, 3, 69], [1, 3], [1, 3], [1, 3, 4], [1, 3, 109], [1, 3], [2], [1, 3], [2]]
theorem c89 : cFunc Try.prog 89 false h89 = some F89 := by kernel_rfl

/-- baton/batonref03.putN -/
def F90 : IFunc := ⟨1, 6, [.tmp 2], false,
 .seq (.reg [0] [⟨(some 2), none, .mov (.c (.g (.str [])))⟩]) <|
 .seq (.reg [2] [⟨(some 3), none, .mov (.t 0)⟩,
    ⟨(some 4), none, .conv .u64 (.t 3)⟩,
    ⟨(some 5), none, .call (.c (.g (.fn 106))) [(.t 4)]⟩,
    ⟨(some 2), none, .mov (.t 5)⟩]) <|
 .ret⟩
def h90 : List (List Nat) := [[0], [2]]
theorem c90 : cFunc Try.prog 90 false h90 = some F90 := by kernel_rfl

/-- baton/batonref03.putB -/
def F91 : IFunc := ⟨1, 4, [.tmp 2], false,
 .seq (.reg [0] [⟨(some 2), none, .mov (.c (.g (.str [])))⟩]) <|
 .seq (.seq (.reg [3] [⟨(some 3), none, .mov (.t 0)⟩]) <|
  .cond [] (.t 3)
   (.seq (.reg [2] [⟨(some 2), none, .mov (.c (.g (.str [1])))⟩]) <|
    .ret)
   (.skip)) <|
 .seq (.reg [2] [⟨(some 2), none, .mov (.c (.g (.str [0])))⟩]) <|
 .ret⟩
def h91 : List (List Nat) := [[0], [3], [], [2], [2]]
theorem c91 : cFunc Try.prog 91 false h91 = some F91 := by kernel_rfl

/-- baton/batonref03.putS -/
def F92 : IFunc := ⟨1, 8, [.tmp 2], false,
 .seq (.reg [0] [⟨(some 2), none, .mov (.c (.g (.str [])))⟩]) <|
 .seq (.reg [2] [⟨(some 3), none, .mov (.t 0)⟩,
    ⟨(some 4), none, .lenS (.t 3)⟩,
    ⟨(some 5), none, .call (.c (.g (.fn 90))) [(.t 4)]⟩,
    ⟨(some 6), none, .mov (.t 0)⟩,
    ⟨(some 7), none, .bin .add (.t 5) (.t 6)⟩,
    ⟨(some 2), none, .mov (.t 7)⟩]) <|
 .ret⟩
def h92 : List (List Nat) := [[0], [2]]
theorem c92 : cFunc Try.prog 92 false h92 = some F92 := by kernel_rfl

/-- baton/batonref03.putMuts -/
def L93_0 : IC :=
 .seq (.seq (.reg [0, 3, 4, 11] [⟨(some 8), none, .mov (.t 4)⟩,
     ⟨(some 9), none, .mov (.t 0)⟩,
     ⟨(some 10), none, .len (.t 9)⟩,
     ⟨(some 11), none, .bin .lss (.t 8) (.t 10)⟩]) <|
  .cond [0, 3, 4] (.t 11)
   (.skip)
   (.exit 0)) <|
 .seq (.block [0, 3, 4] 1 <|
  .drw [0, 3, 4] 0 <|
  .take ⟨(some 14), none, .mov (.t 3)⟩ <|
  .take ⟨(some 15), none, .mov (.t 0)⟩ <|
  .take ⟨(some 16), none, .mov (.t 4)⟩ <|
  .take ⟨(some 17), none, .iaddr 4 (.t 15) (.t 16)⟩ <|
  .take ⟨(some 18), none, .faddr 0 (.t 17)⟩ <|
  .take ⟨(some 19), none, .load false 1 (.t 18)⟩ <|
  .take ⟨(some 22), none, .mov (.t 0)⟩ <|
  .take ⟨(some 23), none, .mov (.t 4)⟩ <|
  .take ⟨(some 24), none, .iaddr 4 (.t 22) (.t 23)⟩ <|
  .take ⟨(some 25), none, .faddr 1 (.t 24)⟩ <|
  .take ⟨(some 26), none, .load false 1 (.t 25)⟩ <|
  .take ⟨(some 29), none, .mov (.t 0)⟩ <|
  .take ⟨(some 30), none, .mov (.t 4)⟩ <|
  .take ⟨(some 31), none, .iaddr 4 (.t 29) (.t 30)⟩ <|
  .take ⟨(some 32), none, .faddr 2 (.t 31)⟩ <|
  .take ⟨(some 33), none, .load false 1 (.t 32)⟩ <|
  .take ⟨(some 36), none, .mov (.t 0)⟩ <|
  .take ⟨(some 37), none, .mov (.t 4)⟩ <|
  .take ⟨(some 38), none, .iaddr 4 (.t 36) (.t 37)⟩ <|
  .take ⟨(some 39), none, .faddr 3 (.t 38)⟩ <|
  .take ⟨(some 40), none, .load false 1 (.t 39)⟩ <|
  .one ⟨(some 20), none, .call (.c (.g (.fn 91))) [(.t 19)]⟩ <|
  .take ⟨(some 21), none, .bin .add (.t 14) (.t 20)⟩ <|
  .one ⟨(some 27), none, .call (.c (.g (.fn 92))) [(.t 26)]⟩ <|
  .take ⟨(some 28), none, .bin .add (.t 21) (.t 27)⟩ <|
  .one ⟨(some 34), none, .call (.c (.g (.fn 92))) [(.t 33)]⟩ <|
  .take ⟨(some 35), none, .bin .add (.t 28) (.t 34)⟩ <|
  .one ⟨(some 41), none, .call (.c (.g (.fn 90))) [(.t 40)]⟩ <|
  .take ⟨(some 42), none, .bin .add (.t 35) (.t 41)⟩ <|
  .free <|
  .take ⟨(some 3), none, .mov (.t 42)⟩ <|
  .leaf) <|
 .reg [0, 3, 4] [⟨(some 12), none, .mov (.t 4)⟩,
   ⟨(some 13), none, .bin .add (.t 12) (.c (.g (.int .i64 1)))⟩,
   ⟨(some 4), none, .mov (.t 13)⟩]
def F93 : IFunc := ⟨1, 44, [.tmp 2], false,
 .seq (.reg [0] [⟨(some 2), none, .mov (.c (.g (.str [])))⟩]) <|
 .seq (.reg [0, 3] [⟨(some 5), none, .mov (.t 0)⟩,
    ⟨(some 6), none, .len (.t 5)⟩,
    ⟨(some 7), none, .call (.c (.g (.fn 90))) [(.t 6)]⟩,
    ⟨(some 3), none, .mov (.t 7)⟩]) <|
 .seq (.seq (.reg [0, 3, 4] [⟨(some 4), none, .mov (.c (.g (.int .i64 0)))⟩]) <|
  .block [3] 0 <|
  .loop [0, 3, 4] [] L93_0) <|
 .seq (.reg [2] [⟨(some 43), none, .mov (.t 3)⟩,
    ⟨(some 2), none, .mov (.t 43)⟩]) <|
 .ret⟩
def h93 : List (List Nat) := [[0], [0, 3], [0, 3, 4], [3], [0, 3, 4], [0, 3, 4, 11], [0, 3, 4], [0, 3, 4], [0, 3, 4], [], [0, 3, 4], [2]]
theorem c93 : cFunc Try.prog 93 false h93 = some F93 := by kernel_rfl

/-- slices.ContainsFunc[[]int,int] -/
def F94 : IFunc := ⟨2, 9, [.tmp 4], false,
 .seq (.reg [0, 1] [⟨(some 4), none, .mov (.c (.g (.bool false)))⟩]) <|
 .seq (.reg [4] [⟨(some 5), none, .mov (.t 0)⟩,
    ⟨(some 6), none, .mov (.t 1)⟩,
    ⟨(some 7), none, .call (.c (.g (.fn 107))) [(.t 5), (.t 6)]⟩,
    ⟨(some 8), none, .bin .geq (.t 7) (.c (.g (.int .i64 0)))⟩,
    ⟨(some 4), none, .mov (.t 8)⟩]) <|
 .ret⟩
def h94 : List (List Nat) := [[0, 1], [4]]
theorem c94 : cFunc Try.prog 94 false h94 = some F94 := by kernel_rfl

/-- baton/wire.number$1 -/
def F95 : IFunc := ⟨1, 9, [.tmp 2], false,
 .seq (.reg [0] [⟨(some 2), none, .mov (.c (.g (.bool false)))⟩]) <|
 .seq (.reg [2] [⟨(some 3), none, .mov (.t 0)⟩,
    ⟨(some 4), none, .bin .lss (.t 3) (.c (.g (.int .i64 0)))⟩,
    ⟨(some 5), none, .mov (.t 4)⟩,
    ⟨(some 6), (some (5, false)), .mov (.t 0)⟩,
    ⟨(some 7), (some (5, false)), .bin .gtr (.t 6) (.c (.g (.int .i64 1099511627775)))⟩,
    ⟨(some 8), none, .pick (.t 5) (.c (.g (.bool true))) (.t 7)⟩,
    ⟨(some 2), none, .mov (.t 8)⟩]) <|
 .ret⟩
def h95 : List (List Nat) := [[0], [2]]
theorem c95 : cFunc Try.prog 95 false h95 = some F95 := by kernel_rfl

/-- slices.ContainsFunc[[]baton/api.Cmp,baton/api.Cmp] -/
def F96 : IFunc := ⟨2, 9, [.tmp 4], false,
 .seq (.reg [0, 1] [⟨(some 4), none, .mov (.c (.g (.bool false)))⟩]) <|
 .seq (.reg [4] [⟨(some 5), none, .mov (.t 0)⟩,
    ⟨(some 6), none, .mov (.t 1)⟩,
    ⟨(some 7), none, .call (.c (.g (.fn 108))) [(.t 5), (.t 6)]⟩,
    ⟨(some 8), none, .bin .geq (.t 7) (.c (.g (.int .i64 0)))⟩,
    ⟨(some 4), none, .mov (.t 8)⟩]) <|
 .ret⟩
def h96 : List (List Nat) := [[0, 1], [4]]
theorem c96 : cFunc Try.prog 96 false h96 = some F96 := by kernel_rfl

/-- baton/wire.all[baton/api.Cmp]$1 -/
def F97 : IFunc := ⟨2, 8, [.tmp 3], false,
 .seq (.reg [1, 2] [⟨(some 2), none, .box (.t 0)⟩,
    ⟨(some 3), none, .mov (.c (.g (.bool false)))⟩]) <|
 .seq (.reg [3] [⟨(some 4), none, .load false 1 (.t 1)⟩,
    ⟨(some 5), none, .load true 5 (.t 2)⟩,
    ⟨(some 6), none, .call (.t 4) [(.t 5)]⟩,
    ⟨(some 7), none, .un .not (.t 6)⟩,
    ⟨(some 3), none, .mov (.t 7)⟩]) <|
 .ret⟩
def h97 : List (List Nat) := [[1, 2], [3]]
theorem c97 : cFunc Try.prog 97 false h97 = some F97 := by kernel_rfl

/-- slices.ContainsFunc[[]baton/api.Mut,baton/api.Mut] -/
def F98 : IFunc := ⟨2, 9, [.tmp 4], false,
 .seq (.reg [0, 1] [⟨(some 4), none, .mov (.c (.g (.bool false)))⟩]) <|
 .seq (.reg [4] [⟨(some 5), none, .mov (.t 0)⟩,
    ⟨(some 6), none, .mov (.t 1)⟩,
    ⟨(some 7), none, .call (.c (.g (.fn 109))) [(.t 5), (.t 6)]⟩,
    ⟨(some 8), none, .bin .geq (.t 7) (.c (.g (.int .i64 0)))⟩,
    ⟨(some 4), none, .mov (.t 8)⟩]) <|
 .ret⟩
def h98 : List (List Nat) := [[0, 1], [4]]
theorem c98 : cFunc Try.prog 98 false h98 = some F98 := by kernel_rfl

/-- baton/wire.all[baton/api.Mut]$1 -/
def F99 : IFunc := ⟨2, 8, [.tmp 3], false,
 .seq (.reg [1, 2] [⟨(some 2), none, .box (.t 0)⟩,
    ⟨(some 3), none, .mov (.c (.g (.bool false)))⟩]) <|
 .seq (.reg [3] [⟨(some 4), none, .load false 1 (.t 1)⟩,
    ⟨(some 5), none, .load true 4 (.t 2)⟩,
    ⟨(some 6), none, .call (.t 4) [(.t 5)]⟩,
    ⟨(some 7), none, .un .not (.t 6)⟩,
    ⟨(some 3), none, .mov (.t 7)⟩]) <|
 .ret⟩
def h99 : List (List Nat) := [[1, 2], [3]]
theorem c99 : cFunc Try.prog 99 false h99 = some F99 := by kernel_rfl

/-- (*strings.Builder).WriteString -/
def F100 : IFunc := ⟨2, 19, [.tmp 4, .tmp 5], false,
 .seq (.reg [0, 1] [⟨(some 4), none, .mov (.c (.g (.int .i64 0)))⟩,
    ⟨(some 5), none, .mov (.c (.g (.nif)))⟩]) <|
 .seq (.reg [0, 1] [⟨(some 6), none, .mov (.t 0)⟩,
    ⟨(some 7), none, .call (.c (.g (.fn 110))) [(.t 6)]⟩]) <|
 .seq (.reg [1] [⟨(some 8), none, .mov (.t 0)⟩,
    ⟨(some 9), none, .mov (.t 0)⟩,
    ⟨(some 10), none, .nilchk (.t 9)⟩,
    ⟨(some 11), none, .faddr 1 (.t 10)⟩,
    ⟨(some 12), none, .load false 1 (.t 11)⟩,
    ⟨(some 13), none, .mov (.t 1)⟩,
    ⟨(some 14), none, .appT 5 (.t 12) (.t 13)⟩,
    ⟨(some 15), none, .nilchk (.t 8)⟩,
    ⟨(some 16), none, .faddr 1 (.t 15)⟩,
    ⟨none, none, .store 1 (.t 16) (.t 14)⟩]) <|
 .seq (.reg [4, 5] [⟨(some 17), none, .mov (.t 1)⟩,
    ⟨(some 18), none, .lenS (.t 17)⟩,
    ⟨(some 4), none, .mov (.t 18)⟩,
    ⟨(some 5), none, .mov (.c (.g (.nif)))⟩]) <|
 .ret⟩
def h100 : List (List Nat) := [[0, 1], [0, 1], [1], [4, 5]]
theorem c100 : cFunc Try.prog 100 false h100 = some F100 := by kernel_rfl

/-- baton/shift.Var -/
def L101_0 : IC :=
 .seq (.seq (.reg [0, 3, 5] [⟨(some 4), none, .mov (.t 0)⟩,
     ⟨(some 5), none, .bin .geq (.t 4) (.c (.g (.int .u64 128)))⟩]) <|
  .cond [0, 3] (.t 5)
   (.skip)
   (.exit 0)) <|
 .seq (.block [0, 3] 1 <|
  .reg [0, 3] [⟨(some 8), none, .mov (.t 3)⟩,
    ⟨(some 9), none, .mov (.t 0)⟩,
    ⟨(some 10), none, .conv .u8 (.t 9)⟩,
    ⟨(some 11), none, .bin .or (.t 10) (.c (.g (.int .u8 128)))⟩,
    ⟨(some 12), none, .bslice 1 1 [.int .u8 0] [(0, 1, (.t 11))]⟩,
    ⟨(some 13), none, .app 1 1 (.t 8) (.t 12)⟩,
    ⟨(some 3), none, .mov (.t 13)⟩]) <|
 .reg [0, 3] [⟨(some 6), none, .mov (.t 0)⟩,
   ⟨(some 7), none, .bin .shr (.t 6) (.c (.g (.int .u64 7)))⟩,
   ⟨(some 0), none, .mov (.t 7)⟩]
def F101 : IFunc := ⟨1, 20, [.tmp 2], false,
 .seq (.reg [0] [⟨(some 2), none, .mov (.c (.g (.str [])))⟩]) <|
 .seq (.reg [0, 3] [⟨(some 3), none, .nres 1⟩]) <|
 .seq (.block [0, 3] 0 <|
  .loop [0, 3] [] L101_0) <|
 .seq (.reg [2] [⟨(some 14), none, .mov (.t 3)⟩,
    ⟨(some 15), none, .mov (.t 0)⟩,
    ⟨(some 16), none, .conv .u8 (.t 15)⟩,
    ⟨(some 17), none, .bslice 1 1 [.int .u8 0] [(0, 1, (.t 16))]⟩,
    ⟨(some 18), none, .app 1 1 (.t 14) (.t 17)⟩,
    ⟨(some 19), none, .convBS (.t 18)⟩,
    ⟨(some 2), none, .mov (.t 19)⟩]) <|
 .ret⟩
def h101 : List (List Nat) := [[0], [0, 3], [0, 3], [0, 3], [0, 3, 5], [0, 3], [0, 3], [0, 3], [0, 3], [2]]
theorem c101 : cFunc Try.prog 101 false h101 = some F101 := by kernel_rfl

/-- baton/drift.Safe -/
def F102 : IFunc := ⟨1, 12, [.tmp 2], false,
 .seq (.reg [0] [⟨(some 2), none, .mov (.c (.g (.int .i64 0)))⟩]) <|
 .seq (.seq (.reg [0, 8] [⟨(some 3), none, .mov (.t 0)⟩,
     ⟨(some 4), none, .bin .lss (.t 3) (.c (.g (.int .i64 1)))⟩,
     ⟨(some 5), none, .mov (.t 4)⟩,
     ⟨(some 6), (some (5, false)), .mov (.t 0)⟩,
     ⟨(some 7), (some (5, false)), .bin .gtr (.t 6) (.c (.g (.int .i64 1000)))⟩,
     ⟨(some 8), none, .pick (.t 5) (.c (.g (.bool true))) (.t 7)⟩]) <|
  .cond [0] (.t 8)
   (.seq (.reg [2] [⟨(some 2), none, .mov (.c (.g (.int .i64 0)))⟩]) <|
    .ret)
   (.skip)) <|
 .seq (.reg [2] [⟨(some 9), none, .mov (.t 0)⟩,
    ⟨(some 10), none, .bin .mul (.t 9) (.c (.g (.int .i64 15)))⟩,
    ⟨(some 11), none, .bin .quo (.t 10) (.c (.g (.int .i64 17)))⟩,
    ⟨(some 2), none, .mov (.t 11)⟩]) <|
 .ret⟩
def h102 : List (List Nat) := [[0], [0, 8], [0], [2], [2]]
theorem c102 : cFunc Try.prog 102 false h102 = some F102 := by kernel_rfl

/-- baton/batonref03.number -/
def F103 : IFunc := ⟨1, 9, [.tmp 2], false,
 .seq (.reg [0] [⟨(some 2), none, .mov (.c (.g (.bool false)))⟩]) <|
 .seq (.reg [2] [⟨(some 3), none, .mov (.t 0)⟩,
    ⟨(some 4), none, .bin .geq (.t 3) (.c (.g (.int .i64 0)))⟩,
    ⟨(some 5), none, .mov (.t 4)⟩,
    ⟨(some 6), (some (5, true)), .mov (.t 0)⟩,
    ⟨(some 7), (some (5, true)), .bin .leq (.t 6) (.c (.g (.int .i64 1099511627775)))⟩,
    ⟨(some 8), none, .pick (.t 5) (.t 7) (.c (.g (.bool false)))⟩,
    ⟨(some 2), none, .mov (.t 8)⟩]) <|
 .ret⟩
def h103 : List (List Nat) := [[0], [2]]
theorem c103 : cFunc Try.prog 103 false h103 = some F103 := by kernel_rfl

/-- baton/batonref03.texts -/
def F104 : IFunc := ⟨2, 13, [.tmp 4], false,
 .seq (.reg [0, 1] [⟨(some 4), none, .mov (.c (.g (.bool false)))⟩]) <|
 .seq (.reg [4] [⟨(some 5), none, .mov (.t 0)⟩,
    ⟨(some 6), none, .lenS (.t 5)⟩,
    ⟨(some 7), none, .bin .leq (.t 6) (.c (.g (.int .i64 40)))⟩,
    ⟨(some 8), none, .mov (.t 7)⟩,
    ⟨(some 9), (some (8, true)), .mov (.t 1)⟩,
    ⟨(some 10), (some (8, true)), .lenS (.t 9)⟩,
    ⟨(some 11), (some (8, true)), .bin .leq (.t 10) (.c (.g (.int .i64 20)))⟩,
    ⟨(some 12), none, .pick (.t 8) (.t 11) (.c (.g (.bool false)))⟩,
    ⟨(some 4), none, .mov (.t 12)⟩]) <|
 .ret⟩
def h104 : List (List Nat) := [[0, 1], [4]]
theorem c104 : cFunc Try.prog 104 false h104 = some F104 := by kernel_rfl

/-- baton/batonref03.muts -/
def L105_0 : IC :=
 .seq (.seq (.reg [0, 3, 10] [⟨(some 7), none, .mov (.t 3)⟩,
     ⟨(some 8), none, .mov (.t 0)⟩,
     ⟨(some 9), none, .len (.t 8)⟩,
     ⟨(some 10), none, .bin .lss (.t 7) (.t 9)⟩]) <|
  .cond [0, 3] (.t 10)
   (.skip)
   (.exit 0)) <|
 .seq (.block [0, 3] 1 <|
  .seq (.drw [0, 3, 33] 0 <|
   .take ⟨(some 13), none, .mov (.t 0)⟩ <|
   .take ⟨(some 14), none, .mov (.t 3)⟩ <|
   .take ⟨(some 15), none, .iaddr 4 (.t 13) (.t 14)⟩ <|
   .take ⟨(some 16), none, .faddr 1 (.t 15)⟩ <|
   .take ⟨(some 17), none, .load false 1 (.t 16)⟩ <|
   .take ⟨(some 18), none, .mov (.t 0)⟩ <|
   .take ⟨(some 19), none, .mov (.t 3)⟩ <|
   .take ⟨(some 20), none, .iaddr 4 (.t 18) (.t 19)⟩ <|
   .take ⟨(some 21), none, .faddr 2 (.t 20)⟩ <|
   .take ⟨(some 22), none, .load false 1 (.t 21)⟩ <|
   .one ⟨(some 23), none, .call (.c (.g (.fn 104))) [(.t 17), (.t 22)]⟩ <|
   .take ⟨(some 24), none, .un .not (.t 23)⟩ <|
   .take ⟨(some 25), none, .mov (.t 24)⟩ <|
   .take ⟨(some 26), (some (25, false)), .mov (.t 0)⟩ <|
   .take ⟨(some 27), (some (25, false)), .mov (.t 3)⟩ <|
   .take ⟨(some 28), (some (25, false)), .iaddr 4 (.t 26) (.t 27)⟩ <|
   .take ⟨(some 29), (some (25, false)), .faddr 3 (.t 28)⟩ <|
   .one ⟨(some 30), (some (25, false)), .load false 1 (.t 29)⟩ <|
   .one ⟨(some 31), (some (25, false)), .call (.c (.g (.fn 103))) [(.t 30)]⟩ <|
   .take ⟨(some 32), (some (25, false)), .un .not (.t 31)⟩ <|
   .take ⟨(some 33), none, .pick (.t 25) (.c (.g (.bool true))) (.t 32)⟩ <|
   .leaf) <|
  .cond [0, 3] (.t 33)
   (.seq (.reg [2] [⟨(some 2), none, .mov (.c (.g (.bool false)))⟩]) <|
    .ret)
   (.skip)) <|
 .reg [0, 3] [⟨(some 11), none, .mov (.t 3)⟩,
   ⟨(some 12), none, .bin .add (.t 11) (.c (.g (.int .i64 1)))⟩,
   ⟨(some 3), none, .mov (.t 12)⟩]
def F105 : IFunc := ⟨1, 34, [.tmp 2], false,
 .seq (.reg [0] [⟨(some 2), none, .mov (.c (.g (.bool false)))⟩]) <|
 .seq (.seq (.reg [0, 6] [⟨(some 4), none, .mov (.t 0)⟩,
     ⟨(some 5), none, .len (.t 4)⟩,
     ⟨(some 6), none, .bin .gtr (.t 5) (.c (.g (.int .i64 4)))⟩]) <|
  .cond [0] (.t 6)
   (.seq (.reg [2] [⟨(some 2), none, .mov (.c (.g (.bool false)))⟩]) <|
    .ret)
   (.skip)) <|
 .seq (.seq (.reg [0, 3] [⟨(some 3), none, .mov (.c (.g (.int .i64 0)))⟩]) <|
  .block [] 0 <|
  .loop [0, 3] [] L105_0) <|
 .seq (.reg [2] [⟨(some 2), none, .mov (.c (.g (.bool true)))⟩]) <|
 .ret⟩
def h105 : List (List Nat) := [[0], [0, 6], [0], [2], [0, 3], [], [0, 3], [0, 3, 10], [0, 3], [0, 3], [0, 3, 33], [], [0, 3], [2], [0, 3], [2]]
theorem c105 : cFunc Try.prog 105 false h105 = some F105 := by kernel_rfl

/-- baton/batonref01.Var -/
def L106_0 : IC :=
 .seq (.seq (.reg [0, 3, 5] [⟨(some 4), none, .mov (.t 0)⟩,
     ⟨(some 5), none, .bin .geq (.t 4) (.c (.g (.int .u64 128)))⟩]) <|
  .cond [0, 3] (.t 5)
   (.skip)
   (.exit 0)) <|
 .block [0, 3] 1 <|
 .seq (.reg [0, 3] [⟨(some 6), none, .mov (.t 3)⟩,
    ⟨(some 7), none, .mov (.t 0)⟩,
    ⟨(some 8), none, .bin .rem (.t 7) (.c (.g (.int .u64 128)))⟩,
    ⟨(some 9), none, .bin .add (.t 8) (.c (.g (.int .u64 128)))⟩,
    ⟨(some 10), none, .conv .u8 (.t 9)⟩,
    ⟨(some 11), none, .bslice 1 1 [.int .u8 0] [(0, 1, (.t 10))]⟩,
    ⟨(some 12), none, .app 1 1 (.t 6) (.t 11)⟩,
    ⟨(some 3), none, .mov (.t 12)⟩]) <|
 .reg [0, 3] [⟨(some 13), none, .mov (.t 0)⟩,
   ⟨(some 14), none, .bin .quo (.t 13) (.c (.g (.int .u64 128)))⟩,
   ⟨(some 0), none, .mov (.t 14)⟩]
def F106 : IFunc := ⟨1, 21, [.tmp 2], false,
 .seq (.reg [0] [⟨(some 2), none, .mov (.c (.g (.str [])))⟩]) <|
 .seq (.reg [0, 3] [⟨(some 3), none, .nres 1⟩]) <|
 .seq (.block [0, 3] 0 <|
  .loop [0, 3] [] L106_0) <|
 .seq (.reg [2] [⟨(some 15), none, .mov (.t 3)⟩,
    ⟨(some 16), none, .mov (.t 0)⟩,
    ⟨(some 17), none, .conv .u8 (.t 16)⟩,
    ⟨(some 18), none, .bslice 1 1 [.int .u8 0] [(0, 1, (.t 17))]⟩,
    ⟨(some 19), none, .app 1 1 (.t 15) (.t 18)⟩,
    ⟨(some 20), none, .convBS (.t 19)⟩,
    ⟨(some 2), none, .mov (.t 20)⟩]) <|
 .ret⟩
def h106 : List (List Nat) := [[0], [0, 3], [0, 3], [0, 3], [0, 3, 5], [0, 3], [0, 3], [0, 3], [0, 3], [2]]
theorem c106 : cFunc Try.prog 106 false h106 = some F106 := by kernel_rfl

/-- slices.IndexFunc[[]int,int] -/
def L107_0 : IC :=
 .seq (.reg [0, 1, 7, 8, 9] [⟨(some 9), none, .bin .lss (.t 8) (.t 7)⟩]) <|
 .seq (.cond [0, 1, 7, 8] (.t 9)
   (.skip)
   (.exit 0)) <|
 .seq (.block [0, 1, 7, 8] 1 <|
  .seq (.reg [0, 1, 5, 7, 8] [⟨(some 10), none, .mov (.t 8)⟩,
     ⟨(some 5), none, .mov (.t 10)⟩]) <|
  .seq (.reg [0, 1, 5, 7, 8, 16] [⟨(some 11), none, .mov (.t 1)⟩,
     ⟨(some 12), none, .mov (.t 0)⟩,
     ⟨(some 13), none, .mov (.t 5)⟩,
     ⟨(some 14), none, .iaddr 1 (.t 12) (.t 13)⟩,
     ⟨(some 15), none, .load false 1 (.t 14)⟩,
     ⟨(some 16), none, .call (.t 11) [(.t 15)]⟩]) <|
  .cond [0, 1, 7, 8] (.t 16)
   (.seq (.reg [4] [⟨(some 17), none, .mov (.t 5)⟩,
       ⟨(some 4), none, .mov (.t 17)⟩]) <|
    .ret)
   (.skip)) <|
 .reg [0, 1, 7, 8] [⟨(some 18), none, .bin .add (.t 8) (.c (.g (.int .i64 1)))⟩,
   ⟨(some 8), none, .mov (.t 18)⟩]
def F107 : IFunc := ⟨2, 19, [.tmp 4], false,
 .seq (.reg [0, 1] [⟨(some 4), none, .mov (.c (.g (.int .i64 0)))⟩]) <|
 .seq (.seq (.reg [0, 1, 7, 8] [⟨(some 6), none, .mov (.t 0)⟩,
     ⟨(some 7), none, .len (.t 6)⟩,
     ⟨(some 8), none, .mov (.c (.g (.int .i64 0)))⟩]) <|
  .block [] 0 <|
  .loop [0, 1, 7, 8] [] L107_0) <|
 .seq (.reg [4] [⟨(some 4), none, .mov (.c (.g (.int .i64 (-1))))⟩]) <|
 .ret⟩
def h107 : List (List Nat) := [[0, 1], [0, 1, 7, 8], [], [0, 1, 7, 8], [0, 1, 7, 8, 9], [0, 1, 7, 8], [0, 1, 7, 8], [0, 1, 5, 7, 8], [0, 1, 5, 7, 8, 16], [0, 1, 7, 8], [4], [0, 1, 7, 8], [4]]
theorem c107 : cFunc Try.prog 107 false h107 = some F107 := by kernel_rfl

/-- slices.IndexFunc[[]baton/api.Cmp,baton/api.Cmp] -/
def L108_0 : IC :=
 .seq (.reg [0, 1, 7, 8, 9] [⟨(some 9), none, .bin .lss (.t 8) (.t 7)⟩]) <|
 .seq (.cond [0, 1, 7, 8] (.t 9)
   (.skip)
   (.exit 0)) <|
 .seq (.block [0, 1, 7, 8] 1 <|
  .seq (.reg [0, 1, 5, 7, 8] [⟨(some 10), none, .mov (.t 8)⟩,
     ⟨(some 5), none, .mov (.t 10)⟩]) <|
  .seq (.reg [0, 1, 5, 7, 8, 16] [⟨(some 11), none, .mov (.t 1)⟩,
     ⟨(some 12), none, .mov (.t 0)⟩,
     ⟨(some 13), none, .mov (.t 5)⟩,
     ⟨(some 14), none, .iaddr 5 (.t 12) (.t 13)⟩,
     ⟨(some 15), none, .load true 5 (.t 14)⟩,
     ⟨(some 16), none, .call (.t 11) [(.t 15)]⟩]) <|
  .cond [0, 1, 7, 8] (.t 16)
   (.seq (.reg [4] [⟨(some 17), none, .mov (.t 5)⟩,
       ⟨(some 4), none, .mov (.t 17)⟩]) <|
    .ret)
   (.skip)) <|
 .reg [0, 1, 7, 8] [⟨(some 18), none, .bin .add (.t 8) (.c (.g (.int .i64 1)))⟩,
   ⟨(some 8), none, .mov (.t 18)⟩]
def F108 : IFunc := ⟨2, 19, [.tmp 4], false,
 .seq (.reg [0, 1] [⟨(some 4), none, .mov (.c (.g (.int .i64 0)))⟩]) <|
 .seq (.seq (.reg [0, 1, 7, 8] [⟨(some 6), none, .mov (.t 0)⟩,
     ⟨(some 7), none, .len (.t 6)⟩,
     ⟨(some 8), none, .mov (.c (.g (.int .i64 0)))⟩]) <|
  .block [] 0 <|
  .loop [0, 1, 7, 8] [] L108_0) <|
 .seq (.reg [4] [⟨(some 4), none, .mov (.c (.g (.int .i64 (-1))))⟩]) <|
 .ret⟩
def h108 : List (List Nat) := [[0, 1], [0, 1, 7, 8], [], [0, 1, 7, 8], [0, 1, 7, 8, 9], [0, 1, 7, 8], [0, 1, 7, 8], [0, 1, 5, 7, 8], [0, 1, 5, 7, 8, 16], [0, 1, 7, 8], [4], [0, 1, 7, 8], [4]]
theorem c108 : cFunc Try.prog 108 false h108 = some F108 := by kernel_rfl

/-- slices.IndexFunc[[]baton/api.Mut,baton/api.Mut] -/
def L109_0 : IC :=
 .seq (.reg [0, 1, 7, 8, 9] [⟨(some 9), none, .bin .lss (.t 8) (.t 7)⟩]) <|
 .seq (.cond [0, 1, 7, 8] (.t 9)
   (.skip)
   (.exit 0)) <|
 .seq (.block [0, 1, 7, 8] 1 <|
  .seq (.reg [0, 1, 5, 7, 8] [⟨(some 10), none, .mov (.t 8)⟩,
     ⟨(some 5), none, .mov (.t 10)⟩]) <|
  .seq (.reg [0, 1, 5, 7, 8, 16] [⟨(some 11), none, .mov (.t 1)⟩,
     ⟨(some 12), none, .mov (.t 0)⟩,
     ⟨(some 13), none, .mov (.t 5)⟩,
     ⟨(some 14), none, .iaddr 4 (.t 12) (.t 13)⟩,
     ⟨(some 15), none, .load true 4 (.t 14)⟩,
     ⟨(some 16), none, .call (.t 11) [(.t 15)]⟩]) <|
  .cond [0, 1, 7, 8] (.t 16)
   (.seq (.reg [4] [⟨(some 17), none, .mov (.t 5)⟩,
       ⟨(some 4), none, .mov (.t 17)⟩]) <|
    .ret)
   (.skip)) <|
 .reg [0, 1, 7, 8] [⟨(some 18), none, .bin .add (.t 8) (.c (.g (.int .i64 1)))⟩,
   ⟨(some 8), none, .mov (.t 18)⟩]
def F109 : IFunc := ⟨2, 19, [.tmp 4], false,
 .seq (.reg [0, 1] [⟨(some 4), none, .mov (.c (.g (.int .i64 0)))⟩]) <|
 .seq (.seq (.reg [0, 1, 7, 8] [⟨(some 6), none, .mov (.t 0)⟩,
     ⟨(some 7), none, .len (.t 6)⟩,
     ⟨(some 8), none, .mov (.c (.g (.int .i64 0)))⟩]) <|
  .block [] 0 <|
  .loop [0, 1, 7, 8] [] L109_0) <|
 .seq (.reg [4] [⟨(some 4), none, .mov (.c (.g (.int .i64 (-1))))⟩]) <|
 .ret⟩
def h109 : List (List Nat) := [[0, 1], [0, 1, 7, 8], [], [0, 1, 7, 8], [0, 1, 7, 8, 9], [0, 1, 7, 8], [0, 1, 7, 8], [0, 1, 5, 7, 8], [0, 1, 5, 7, 8, 16], [0, 1, 7, 8], [4], [0, 1, 7, 8], [4]]
theorem c109 : cFunc Try.prog 109 false h109 = some F109 := by kernel_rfl

/-- (*strings.Builder).copyCheck -/
def F110 : IFunc := ⟨1, 20, [], false,
 .seq (.reg [0, 6] [⟨(some 2), none, .mov (.t 0)⟩,
    ⟨(some 3), none, .nilchk (.t 2)⟩,
    ⟨(some 4), none, .faddr 0 (.t 3)⟩,
    ⟨(some 5), none, .load false 1 (.t 4)⟩,
    ⟨(some 6), none, .isnil false 0 (.t 5)⟩]) <|
 .cond [] (.t 6)
  (.reg [] [⟨(some 7), none, .mov (.t 0)⟩,
     ⟨(some 8), none, .mov (.t 0)⟩,
     ⟨(some 9), none, .toU (.t 8)⟩,
     ⟨(some 10), none, .call (.c (.g (.fn 111))) [(.t 9)]⟩,
     ⟨(some 11), none, .fromU [(113, 2), (114, 2), (115, 2)] (.t 10)⟩,
     ⟨(some 12), none, .nilchk (.t 7)⟩,
     ⟨(some 13), none, .faddr 0 (.t 12)⟩,
     ⟨none, none, .store 1 (.t 13) (.t 11)⟩])
  (.seq (.reg [19] [⟨(some 14), none, .mov (.t 0)⟩,
      ⟨(some 15), none, .nilchk (.t 14)⟩,
      ⟨(some 16), none, .faddr 0 (.t 15)⟩,
      ⟨(some 17), none, .load false 1 (.t 16)⟩,
      ⟨(some 18), none, .mov (.t 0)⟩,
      ⟨(some 19), none, .neqp (.t 17) (.t 18)⟩]) <|
   .cond [] (.t 19)
    (.reg [] [⟨none, none, .row 0 []⟩])
    (.skip))⟩
def h110 : List (List Nat) := [[0, 6], [], [], [19], []]
theorem c110 : cFunc Try.prog 110 false h110 = some F110 := by kernel_rfl

end Go.Proofs.Ytlcjocciianphaa
