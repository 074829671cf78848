/- The seat's table of functions. No conditions. -/
import Derived.Test.YtlcjocciianphaaIRb
import Derived.Test.YtlcjocciianphaaAMJ3
namespace Go.Proofs.Ytlcjocciianphaa
open Go Go.AM Go.Proofs
def tabL : List (Nat × IFunc) := [(3, F3), (4, F4), (5, F5), (6, F6), (7, F7), (8, F8), (14, F14), (15, F15), (16, F16), (17, F17), (18, F18), (19, F19), (20, F20), (21, F21), (22, F22), (23, F23), (24, F24), (25, F25), (26, F26), (27, F27), (28, F28), (29, F29), (30, F30), (31, F31), (32, F32), (33, F33), (34, F34), (35, F35), (55, F55), (56, F56), (57, F57), (58, F58), (59, F59), (60, F60), (61, F61), (62, F62), (63, F63), (64, F64), (65, F65), (66, F66), (81, F81), (82, F82), (83, F83), (84, F84), (85, F85), (86, F86), (87, F87), (88, F88), (102, F102)]
theorem allC : AllC Try.prog tabL := ⟨⟨_, _, c3⟩, ⟨⟨_, _, c4⟩, ⟨⟨_, _, c5⟩, ⟨⟨_, _, c6⟩, ⟨⟨_, _, c7⟩, ⟨⟨_, _, c8⟩, ⟨⟨_, _, c14⟩, ⟨⟨_, _, c15⟩, ⟨⟨_, _, c16⟩, ⟨⟨_, _, c17⟩, ⟨⟨_, _, c18⟩, ⟨⟨_, _, c19⟩, ⟨⟨_, _, c20⟩, ⟨⟨_, _, c21⟩, ⟨⟨_, _, c22⟩, ⟨⟨_, _, c23⟩, ⟨⟨_, _, c24⟩, ⟨⟨_, _, c25⟩, ⟨⟨_, _, c26⟩, ⟨⟨_, _, c27⟩, ⟨⟨_, _, c28⟩, ⟨⟨_, _, c29⟩, ⟨⟨_, _, c30⟩, ⟨⟨_, _, c31⟩, ⟨⟨_, _, c32⟩, ⟨⟨_, _, c33⟩, ⟨⟨_, _, c34⟩, ⟨⟨_, _, c35⟩, ⟨⟨_, _, c55⟩, ⟨⟨_, _, c56⟩, ⟨⟨_, _, c57⟩, ⟨⟨_, _, c58⟩, ⟨⟨_, _, c59⟩, ⟨⟨_, _, c60⟩, ⟨⟨_, _, c61⟩, ⟨⟨_, _, c62⟩, ⟨⟨_, _, c63⟩, ⟨⟨_, _, c64⟩, ⟨⟨_, _, c65⟩, ⟨⟨_, _, c66⟩, ⟨⟨_, _, c81⟩, ⟨⟨_, _, c82⟩, ⟨⟨_, _, c83⟩, ⟨⟨_, _, c84⟩, ⟨⟨_, _, c85⟩, ⟨⟨_, _, c86⟩, ⟨⟨_, _, c87⟩, ⟨⟨_, _, c88⟩, ⟨⟨_, _, c102⟩, trivial⟩⟩⟩⟩⟩⟩⟩⟩⟩⟩⟩⟩⟩⟩⟩⟩⟩⟩⟩⟩⟩⟩⟩⟩⟩⟩⟩⟩⟩⟩⟩⟩⟩⟩⟩⟩⟩⟩⟩⟩⟩⟩⟩⟩⟩⟩⟩⟩⟩
def tab : Tab := ⟨lookF tabL, fun _ _ _ => none⟩
theorem tabOk : TabOk Try.prog tab := ⟨tab_ok (by kernel_rfl) allC, fun f args H r h => (by cases h), by kernel_rfl⟩
theorem t3 : tab.T 3 = some F3 := rfl
theorem t4 : tab.T 4 = some F4 := rfl
theorem t5 : tab.T 5 = some F5 := rfl
theorem t6 : tab.T 6 = some F6 := rfl
theorem t7 : tab.T 7 = some F7 := rfl
theorem t8 : tab.T 8 = some F8 := rfl
theorem t14 : tab.T 14 = some F14 := rfl
theorem t15 : tab.T 15 = some F15 := rfl
theorem t16 : tab.T 16 = some F16 := rfl
theorem t17 : tab.T 17 = some F17 := rfl
theorem t18 : tab.T 18 = some F18 := rfl
theorem t19 : tab.T 19 = some F19 := rfl
theorem t20 : tab.T 20 = some F20 := rfl
theorem t21 : tab.T 21 = some F21 := rfl
theorem t22 : tab.T 22 = some F22 := rfl
theorem t23 : tab.T 23 = some F23 := rfl
theorem t24 : tab.T 24 = some F24 := rfl
theorem t25 : tab.T 25 = some F25 := rfl
theorem t26 : tab.T 26 = some F26 := rfl
theorem t27 : tab.T 27 = some F27 := rfl
theorem t28 : tab.T 28 = some F28 := rfl
theorem t29 : tab.T 29 = some F29 := rfl
theorem t30 : tab.T 30 = some F30 := rfl
theorem t31 : tab.T 31 = some F31 := rfl
theorem t32 : tab.T 32 = some F32 := rfl
theorem t33 : tab.T 33 = some F33 := rfl
theorem t34 : tab.T 34 = some F34 := rfl
theorem t35 : tab.T 35 = some F35 := rfl
theorem t55 : tab.T 55 = some F55 := rfl
theorem t56 : tab.T 56 = some F56 := rfl
theorem t57 : tab.T 57 = some F57 := rfl
theorem t58 : tab.T 58 = some F58 := rfl
theorem t59 : tab.T 59 = some F59 := rfl
theorem t60 : tab.T 60 = some F60 := rfl
theorem t61 : tab.T 61 = some F61 := rfl
theorem t62 : tab.T 62 = some F62 := rfl
theorem t63 : tab.T 63 = some F63 := rfl
theorem t64 : tab.T 64 = some F64 := rfl
theorem t65 : tab.T 65 = some F65 := rfl
theorem t66 : tab.T 66 = some F66 := rfl
theorem t81 : tab.T 81 = some F81 := rfl
theorem t82 : tab.T 82 = some F82 := rfl
theorem t83 : tab.T 83 = some F83 := rfl
theorem t84 : tab.T 84 = some F84 := rfl
theorem t85 : tab.T 85 = some F85 := rfl
theorem t86 : tab.T 86 = some F86 := rfl
theorem t87 : tab.T 87 = some F87 := rfl
theorem t88 : tab.T 88 = some F88 := rfl
theorem t102 : tab.T 102 = some F102 := rfl
end Go.Proofs.Ytlcjocciianphaa
