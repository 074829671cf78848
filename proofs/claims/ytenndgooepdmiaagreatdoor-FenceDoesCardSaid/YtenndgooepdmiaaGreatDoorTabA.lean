/- The seat's table of functions. No conditions. -/
import Derived.Test.YtenndgooepdmiaaGreatDoorIRz
import Derived.Test.YtenndgooepdmiaaGreatDoorAMJ4
import Derived.Test.YtenndgooepdmiaaGreatDoorSortT
import Derived.Test.YtenndgooepdmiaaGreatDoorSErr
set_option maxRecDepth 100000
namespace Go.Proofs.YtenndgooepdmiaaGreatDoor
open Go Go.AM Go.Proofs
noncomputable section
def tabL : List (Nat × IFunc) := [(3, F3), (4, F4), (5, F5), (6, F6), (7, F7), (8, F8), (9, F9), (10, F10), (11, F11), (12, F12), (13, F13), (14, F14), (15, F15), (16, F16), (17, F17), (18, F18), (19, F19), (20, F20), (21, F21), (22, F22), (23, F23), (24, F24), (25, F25), (26, F26), (27, F27), (28, F28), (29, F29), (30, F30), (31, F31), (32, F32), (33, F33), (34, F34), (35, F35), (36, F36), (37, F37), (38, F38), (39, F39), (40, F40), (41, F41), (42, F42), (43, F43), (45, F45), (47, F47), (48, F48), (49, F49), (50, F50), (51, F51), (52, F52), (53, F53), (54, F54), (55, F55), (56, F56), (57, F57), (58, F58), (59, F59), (60, F60), (61, F61), (62, F62), (67, F67), (68, F68), (69, F69), (70, F70), (71, F71), (72, F72), (73, F73), (74, F74), (75, F75), (76, F76), (77, F77), (78, F78), (90, F90), (91, F91), (92, F92)]
theorem allC : AllC Tryz.prog tabL := ⟨⟨_, _, c3⟩, ⟨⟨_, _, c4⟩, ⟨⟨_, _, c5⟩, ⟨⟨_, _, c6⟩, ⟨⟨_, _, c7⟩, ⟨⟨_, _, c8⟩, ⟨⟨_, _, c9⟩, ⟨⟨_, _, c10⟩, ⟨⟨_, _, c11⟩, ⟨⟨_, _, c12⟩, ⟨⟨_, _, c13⟩, ⟨⟨_, _, c14⟩, ⟨⟨_, _, c15⟩, ⟨⟨_, _, c16⟩, ⟨⟨_, _, c17⟩, ⟨⟨_, _, c18⟩, ⟨⟨_, _, c19⟩, ⟨⟨_, _, c20⟩, ⟨⟨_, _, c21⟩, ⟨⟨_, _, c22⟩, ⟨⟨_, _, c23⟩, ⟨⟨_, _, c24⟩, ⟨⟨_, _, c25⟩, ⟨⟨_, _, c26⟩, ⟨⟨_, _, c27⟩, ⟨⟨_, _, c28⟩, ⟨⟨_, _, c29⟩, ⟨⟨_, _, c30⟩, ⟨⟨_, _, c31⟩, ⟨⟨_, _, c32⟩, ⟨⟨_, _, c33⟩, ⟨⟨_, _, c34⟩, ⟨⟨_, _, c35⟩, ⟨⟨_, _, c36⟩, ⟨⟨_, _, c37⟩, ⟨⟨_, _, c38⟩, ⟨⟨_, _, c39⟩, ⟨⟨_, _, c40⟩, ⟨⟨_, _, c41⟩, ⟨⟨_, _, c42⟩, ⟨⟨_, _, c43⟩, ⟨⟨_, _, c45⟩, ⟨⟨_, _, c47⟩, ⟨⟨_, _, c48⟩, ⟨⟨_, _, c49⟩, ⟨⟨_, _, c50⟩, ⟨⟨_, _, c51⟩, ⟨⟨_, _, c52⟩, ⟨⟨_, _, c53⟩, ⟨⟨_, _, c54⟩, ⟨⟨_, _, c55⟩, ⟨⟨_, _, c56⟩, ⟨⟨_, _, c57⟩, ⟨⟨_, _, c58⟩, ⟨⟨_, _, c59⟩, ⟨⟨_, _, c60⟩, ⟨⟨_, _, c61⟩, ⟨⟨_, _, c62⟩, ⟨⟨_, _, c67⟩, ⟨⟨_, _, c68⟩, ⟨⟨_, _, c69⟩, ⟨⟨_, _, c70⟩, ⟨⟨_, _, c71⟩, ⟨⟨_, _, c72⟩, ⟨⟨_, _, c73⟩, ⟨⟨_, _, c74⟩, ⟨⟨_, _, c75⟩, ⟨⟨_, _, c76⟩, ⟨⟨_, _, c77⟩, ⟨⟨_, _, c78⟩, ⟨⟨_, _, c90⟩, ⟨⟨_, _, c91⟩, ⟨⟨_, _, c92⟩, trivial⟩⟩⟩⟩⟩⟩⟩⟩⟩⟩⟩⟩⟩⟩⟩⟩⟩⟩⟩⟩⟩⟩⟩⟩⟩⟩⟩⟩⟩⟩⟩⟩⟩⟩⟩⟩⟩⟩⟩⟩⟩⟩⟩⟩⟩⟩⟩⟩⟩⟩⟩⟩⟩⟩⟩⟩⟩⟩⟩⟩⟩⟩⟩⟩⟩⟩⟩⟩⟩⟩⟩⟩⟩
def rndL : List (Nat × IRound) := []
theorem allR : AllR Tryz.prog rndL := trivial
theorem ix93 : IdX Tryz.prog 93 := ⟨(Tryz.prog.funcs[93]?).getD default, by kernel_rfl, by kernel_rfl, by kernel_rfl, by kernel_rfl, by kernel_rfl⟩
def tab : Tab := ⟨lookF tabL, orX (isX 46 86 161) (orX (sortX 44) (idX [93])), lookR rndL⟩
theorem tabOk : TabOk Tryz.prog tab := ⟨tab_ok (by kernel_rfl) allC, orX_ok (isX_ok isC) (orX_ok (sort_ok sortC) (idX_ok (fun k hk => by have e := List.mem_singleton.1 (List.contains_iff_mem.1 hk); subst e; exact ix93))), rd_ok allR, rfl, by kernel_rfl⟩
theorem tx93 : tab.T 93 = none := rfl
theorem tx44 : tab.T 44 = none := rfl
theorem tx46 : tab.T 46 = none := rfl
theorem t3 : tab.T 3 = some F3 := rfl
theorem t4 : tab.T 4 = some F4 := rfl
theorem t5 : tab.T 5 = some F5 := rfl
theorem t6 : tab.T 6 = some F6 := rfl
theorem t7 : tab.T 7 = some F7 := rfl
theorem t8 : tab.T 8 = some F8 := rfl
theorem t9 : tab.T 9 = some F9 := rfl
theorem t10 : tab.T 10 = some F10 := rfl
theorem t11 : tab.T 11 = some F11 := rfl
theorem t12 : tab.T 12 = some F12 := rfl
theorem t13 : tab.T 13 = some F13 := rfl
theorem t14 : tab.T 14 = some F14 := rfl
theorem t15 : tab.T 15 = some F15 := rfl
theorem t16 : tab.T 16 = some F16 := rfl
theorem t17 : tab.T 17 = some F17 := rfl
theorem t18 : tab.T 18 = some F18 := rfl
theorem t19 : tab.T 19 = some F19 := rfl
theorem t20 : tab.T 20 = some F20 := rfl
theorem t21 : tab.T 21 = some F21 := rfl
theorem t22 : tab.T 22 = some F22 := rfl
theorem t23 : tab.T 23 = some F23 := rfl
theorem t24 : tab.T 24 = some F24 := rfl
theorem t25 : tab.T 25 = some F25 := rfl
theorem t26 : tab.T 26 = some F26 := rfl
theorem t27 : tab.T 27 = some F27 := rfl
theorem t28 : tab.T 28 = some F28 := rfl
theorem t29 : tab.T 29 = some F29 := rfl
theorem t30 : tab.T 30 = some F30 := rfl
theorem t31 : tab.T 31 = some F31 := rfl
theorem t32 : tab.T 32 = some F32 := rfl
theorem t33 : tab.T 33 = some F33 := rfl
theorem t34 : tab.T 34 = some F34 := rfl
theorem t35 : tab.T 35 = some F35 := rfl
theorem t36 : tab.T 36 = some F36 := rfl
theorem t37 : tab.T 37 = some F37 := rfl
theorem t38 : tab.T 38 = some F38 := rfl
theorem t39 : tab.T 39 = some F39 := rfl
theorem t40 : tab.T 40 = some F40 := rfl
theorem t41 : tab.T 41 = some F41 := rfl
theorem t42 : tab.T 42 = some F42 := rfl
theorem t43 : tab.T 43 = some F43 := rfl
theorem t45 : tab.T 45 = some F45 := rfl
theorem t47 : tab.T 47 = some F47 := rfl
theorem t48 : tab.T 48 = some F48 := rfl
theorem t49 : tab.T 49 = some F49 := rfl
theorem t50 : tab.T 50 = some F50 := rfl
theorem t51 : tab.T 51 = some F51 := rfl
theorem t52 : tab.T 52 = some F52 := rfl
theorem t53 : tab.T 53 = some F53 := rfl
theorem t54 : tab.T 54 = some F54 := rfl
theorem t55 : tab.T 55 = some F55 := rfl
theorem t56 : tab.T 56 = some F56 := rfl
theorem t57 : tab.T 57 = some F57 := rfl
theorem t58 : tab.T 58 = some F58 := rfl
theorem t59 : tab.T 59 = some F59 := rfl
theorem t60 : tab.T 60 = some F60 := rfl
theorem t61 : tab.T 61 = some F61 := rfl
theorem t62 : tab.T 62 = some F62 := rfl
theorem t67 : tab.T 67 = some F67 := rfl
theorem t68 : tab.T 68 = some F68 := rfl
theorem t69 : tab.T 69 = some F69 := rfl
theorem t70 : tab.T 70 = some F70 := rfl
theorem t71 : tab.T 71 = some F71 := rfl
theorem t72 : tab.T 72 = some F72 := rfl
theorem t73 : tab.T 73 = some F73 := rfl
theorem t74 : tab.T 74 = some F74 := rfl
theorem t75 : tab.T 75 = some F75 := rfl
theorem t76 : tab.T 76 = some F76 := rfl
theorem t77 : tab.T 77 = some F77 := rfl
theorem t78 : tab.T 78 = some F78 := rfl
theorem t90 : tab.T 90 = some F90 := rfl
theorem t91 : tab.T 91 = some F91 := rfl
theorem t92 : tab.T 92 = some F92 := rfl
end
end Go.Proofs.YtenndgooepdmiaaGreatDoor
