/- The seat's table of functions. No conditions. -/
import Derived.Test.YtibnbcljmfigfaaIRm
import Derived.Test.YtibnbcljmfigfaaAMJ4
import Derived.Test.YtibnbcljmfigfaaSortT
namespace Go.Proofs.Ytibnbcljmfigfaa
open Go Go.AM Go.Proofs
noncomputable section
def tabL : List (Nat × IFunc) := [(9, F9), (10, F10), (11, F11), (12, F12), (13, F13), (18, F18), (19, F19), (22, F22), (30, F30), (31, F31), (32, F32), (33, F33), (34, F34), (35, F35), (36, F36), (37, F37), (38, F38), (39, F39), (40, F40), (41, F41), (42, F42), (59, F59), (60, F60), (61, F61), (62, F62), (63, F63), (64, F64), (65, F65), (66, F66), (67, F67), (68, F68), (69, F69), (70, F70), (73, F73), (87, F87), (88, F88), (89, F89), (90, F90), (91, F91), (92, F92), (105, F105)]
theorem allC : AllC Try.prog tabL := ⟨⟨_, _, c9⟩, ⟨⟨_, _, c10⟩, ⟨⟨_, _, c11⟩, ⟨⟨_, _, c12⟩, ⟨⟨_, _, c13⟩, ⟨⟨_, _, c18⟩, ⟨⟨_, _, c19⟩, ⟨⟨_, _, c22⟩, ⟨⟨_, _, c30⟩, ⟨⟨_, _, c31⟩, ⟨⟨_, _, c32⟩, ⟨⟨_, _, c33⟩, ⟨⟨_, _, c34⟩, ⟨⟨_, _, c35⟩, ⟨⟨_, _, c36⟩, ⟨⟨_, _, c37⟩, ⟨⟨_, _, c38⟩, ⟨⟨_, _, c39⟩, ⟨⟨_, _, c40⟩, ⟨⟨_, _, c41⟩, ⟨⟨_, _, c42⟩, ⟨⟨_, _, c59⟩, ⟨⟨_, _, c60⟩, ⟨⟨_, _, c61⟩, ⟨⟨_, _, c62⟩, ⟨⟨_, _, c63⟩, ⟨⟨_, _, c64⟩, ⟨⟨_, _, c65⟩, ⟨⟨_, _, c66⟩, ⟨⟨_, _, c67⟩, ⟨⟨_, _, c68⟩, ⟨⟨_, _, c69⟩, ⟨⟨_, _, c70⟩, ⟨⟨_, _, c73⟩, ⟨⟨_, _, c87⟩, ⟨⟨_, _, c88⟩, ⟨⟨_, _, c89⟩, ⟨⟨_, _, c90⟩, ⟨⟨_, _, c91⟩, ⟨⟨_, _, c92⟩, ⟨⟨_, _, c105⟩, trivial⟩⟩⟩⟩⟩⟩⟩⟩⟩⟩⟩⟩⟩⟩⟩⟩⟩⟩⟩⟩⟩⟩⟩⟩⟩⟩⟩⟩⟩⟩⟩⟩⟩⟩⟩⟩⟩⟩⟩⟩⟩
def rndL : List (Nat × IRound) := []
theorem allR : AllR Try.prog rndL := trivial
def tab : Tab := ⟨lookF tabL, orX (keysX 72 96) (orX (sortX 71) (idX [])), lookR rndL⟩
theorem tabOk : TabOk Try.prog tab := ⟨tab_ok (by kernel_rfl) allC, orX_ok (keys_ok keysC) (orX_ok (sort_ok sortC) (idX_ok (fun k hk => by simp at hk))), rd_ok allR, rfl, by kernel_rfl⟩
theorem tx71 : tab.T 71 = none := rfl
theorem tx72 : tab.T 72 = none := rfl
theorem t9 : tab.T 9 = some F9 := rfl
theorem t10 : tab.T 10 = some F10 := rfl
theorem t11 : tab.T 11 = some F11 := rfl
theorem t12 : tab.T 12 = some F12 := rfl
theorem t13 : tab.T 13 = some F13 := rfl
theorem t18 : tab.T 18 = some F18 := rfl
theorem t19 : tab.T 19 = some F19 := rfl
theorem t22 : tab.T 22 = some F22 := rfl
theorem t30 : tab.T 30 = some F30 := rfl
theorem t31 : tab.T 31 = some F31 := rfl
theorem t32 : tab.T 32 = some F32 := rfl
theorem t33 : tab.T 33 = some F33 := rfl
theorem t34 : tab.T 34 = some F34 := rfl
theorem t35 : tab.T 35 = some F35 := rfl
theorem t36 : tab.T 36 = some F36 := rfl
theorem t37 : tab.T 37 = some F37 := rfl
theorem t38 : tab.T 38 = some F38 := rfl
theorem t39 : tab.T 39 = some F39 := rfl
theorem t40 : tab.T 40 = some F40 := rfl
theorem t41 : tab.T 41 = some F41 := rfl
theorem t42 : tab.T 42 = some F42 := rfl
theorem t59 : tab.T 59 = some F59 := rfl
theorem t60 : tab.T 60 = some F60 := rfl
theorem t61 : tab.T 61 = some F61 := rfl
theorem t62 : tab.T 62 = some F62 := rfl
theorem t63 : tab.T 63 = some F63 := rfl
theorem t64 : tab.T 64 = some F64 := rfl
theorem t65 : tab.T 65 = some F65 := rfl
theorem t66 : tab.T 66 = some F66 := rfl
theorem t67 : tab.T 67 = some F67 := rfl
theorem t68 : tab.T 68 = some F68 := rfl
theorem t69 : tab.T 69 = some F69 := rfl
theorem t70 : tab.T 70 = some F70 := rfl
theorem t73 : tab.T 73 = some F73 := rfl
theorem t87 : tab.T 87 = some F87 := rfl
theorem t88 : tab.T 88 = some F88 := rfl
theorem t89 : tab.T 89 = some F89 := rfl
theorem t90 : tab.T 90 = some F90 := rfl
theorem t91 : tab.T 91 = some F91 := rfl
theorem t92 : tab.T 92 = some F92 := rfl
theorem t105 : tab.T 105 = some F105 := rfl
end
end Go.Proofs.Ytibnbcljmfigfaa
