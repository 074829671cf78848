/- The compiled functions of the seat, part IRg. No conditions. -/
import Derived.Test.YtndfdnlbljhlgaaGreatAMJ3
import Derived.Test.YtndfdnlbljhlgaaGreatProg
import Derived.KernelRfl
namespace Go.Proofs.YtndfdnlbljhlgaaGreat
open Go Go.AM Go.Proofs Go.IR
noncomputable section
def F5:Zg:=⟨2,37,[.tmp 4],false,sr [2,3] [bx 2 0,bx 3 1,mb 4 false]<|
.seq (sr [2,3,12] [la 9 9 2,la 10 13 3,k2 11 21 9 10,nt 12 11]<|
cd [2,3] 12 (sr [4] [k0 13 12,m 4 13]<|
.ret) no)<|
sr [2,3,5,6] [la 15 9 2,la 16 13 3,k2 17 17 15 16,m 14 17,ex 18 0 14,ex 19 1 14,al 5 zS,al 6 zR,st 9 5 18,st 9 6 19]<|
sr [5,6,7,8] [la 21 9 2,la 22 13 3,k2 23 22 21 22,m 20 23,ex 24 0 20,ex 25 1 20,al 7 zS,al 8 zR,st 9 7 24,st 9 8 25]<|
sr [4] [la 26 9 5,la 27 9 7,k2 28 14 26 27,m 29 28,laG 30 29 true 9 6,laG 31 29 true 9 8,k2G 32 29 true 23 30 31,aN 33 29 32,m 34 33,⟨some 35,some (34,true),.call (.c (.g (.fn 12))) []⟩,aN 36 34 35,m 4 36]<|
.ret⟩
theorem c5:cF Tryz.prog 5 F5=some F5:=by kernel_rfl
def F10:Zg:=⟨1,18,[.tmp 2],false,sr [1] [bx 1 0,mb 2 false]<|
sr [2] [fa 3 0 1,la 4 4 3,k1 5 32 4,m 6 5,fG 7 6 true 4 1,fG 8 6 true 1 7,lG 9 6 true 8,lnG 10 6 true 9,bcG 11 6 true .leq 10 20,aN 12 6 11,m 13 12,fG 14 13 true 6 1,laG 15 13 true 2 14,k1G 16 13 true 33 15,aN 17 13 16,m 2 17]<|
.ret⟩
theorem c10:cF Tryz.prog 10 F10=some F10:=by kernel_rfl
def Zc4:IC :=
 .seq (sr [1,3,38] [m 33 3,fa 34 6 1,fa 35 0 34,l1 36 35,ln 37 36,bt 38 .lss 33 37]<|
cd [1,3] 38 no (.exit 0))<|
.seq (.block [1,3] 1<|
sr [1,3,4] [fa 41 6 1,fa 42 0 41,l1 43 42,m 44 3,ia 45 11 43 44,fa 46 2 45,la 47 9 46,al 4 zR,st 9 4 47]<|
.seq (.drw [1,3,79] 0<|tk (la 48 9 4)<|.one (k1 49 29 48)<|tk (nt 50 49)<|tk (m 51 50)<|tk (fG 52 51 false 0 4)<|.one (lG 53 51 false 52)<|tk (bcG 54 51 false .neq 53 0)<|tk (oR 55 51 54)<|tk (m 56 55)<|tk (fG 57 56 false 1 4)<|tk (fG 59 56 false 6 1)<|tk (fG 60 56 false 0 59)<|tk (mG 62 56 false 3)<|
.alt (lG 58 56 false 57) (.one (lG 61 56 false 60)<|tk (iG 63 56 false 11 61 62)<|tk (fG 64 56 false 0 63)<|.one (lG 65 56 false 64)<|tk (btG 66 56 false .neq 58 65)<|tk (oR 67 56 66)<|tk (m 68 67)<|tk (fG 69 68 false 2 4)<|tk (fG 71 68 false 6 1)<|tk (fG 72 68 false 0 71)<|tk (mG 74 68 false 3)<|
.alt (lG 70 68 false 69) (.one (lG 73 68 false 72)<|tk (iG 75 68 false 11 73 74)<|tk (fG 76 68 false 1 75)<|.one (lG 77 68 false 76)<|tk (btG 78 68 false .neq 70 77)<|tk (oR 79 68 78)<|.leaf) (.one (lG 73 68 false 72)<|tk (iG 75 68 false 11 73 74)<|tk (fG 76 68 false 1 75)<|
.alt (lG 70 68 false 69) (.one (lG 77 68 false 76)<|tk (btG 78 68 false .neq 70 77)<|tk (oR 79 68 78)<|.leaf) (.one (lG 77 68 false 76)<|.one (lG 70 68 false 69)<|tk (btG 78 68 false .neq 70 77)<|tk (oR 79 68 78)<|.leaf))) (.one (lG 61 56 false 60)<|tk (iG 63 56 false 11 61 62)<|tk (fG 64 56 false 0 63)<|
.alt (lG 58 56 false 57) (.one (lG 65 56 false 64)<|tk (btG 66 56 false .neq 58 65)<|tk (oR 67 56 66)<|tk (m 68 67)<|tk (fG 69 68 false 2 4)<|tk (fG 71 68 false 6 1)<|tk (fG 72 68 false 0 71)<|tk (mG 74 68 false 3)<|
.alt (lG 70 68 false 69) (.one (lG 73 68 false 72)<|tk (iG 75 68 false 11 73 74)<|tk (fG 76 68 false 1 75)<|.one (lG 77 68 false 76)<|tk (btG 78 68 false .neq 70 77)<|tk (oR 79 68 78)<|.leaf) (.one (lG 73 68 false 72)<|tk (iG 75 68 false 11 73 74)<|tk (fG 76 68 false 1 75)<|
.alt (lG 70 68 false 69) (.one (lG 77 68 false 76)<|tk (btG 78 68 false .neq 70 77)<|tk (oR 79 68 78)<|.leaf) (.one (lG 77 68 false 76)<|.one (lG 70 68 false 69)<|tk (btG 78 68 false .neq 70 77)<|tk (oR 79 68 78)<|.leaf))) (.one (lG 65 56 false 64)<|.one (lG 58 56 false 57)<|tk (btG 66 56 false .neq 58 65)<|tk (oR 67 56 66)<|tk (m 68 67)<|tk (fG 69 68 false 2 4)<|tk (fG 71 68 false 6 1)<|tk (fG 72 68 false 0 71)<|tk (mG 74 68 false 3)<|
.alt (lG 70 68 false 69) (.one (lG 73 68 false 72)<|tk (iG 75 68 false 11 73 74)<|tk (fG 76 68 false 1 75)<|.one (lG 77 68 false 76)<|tk (btG 78 68 false .neq 70 77)<|tk (oR 79 68 78)<|.leaf) (.one (lG 73 68 false 72)<|tk (iG 75 68 false 11 73 74)<|tk (fG 76 68 false 1 75)<|
.alt (lG 70 68 false 69) (.one (lG 77 68 false 76)<|tk (btG 78 68 false .neq 70 77)<|tk (oR 79 68 78)<|.leaf) (.one (lG 77 68 false 76)<|.one (lG 70 68 false 69)<|tk (btG 78 68 false .neq 70 77)<|tk (oR 79 68 78)<|.leaf)))))<|
cd [1,3] 79 (sr [2] [mb 2 false]<|
.ret) no)<|
rg [1,3] [m 39 3,bc 40 .add 39 1,m 3 40]
def Zc5:IC :=
 .seq (sr [1,5,6,86] [m 83 6,m 84 5,ln 85 84,bt 86 .lss 83 85]<|
cd [1,5,6] 86 no (.exit 2))<|
.seq (.block [1,5,6] 3<|
.seq (.drw [1,5,6,105] 0<|tk (m 89 5)<|tk (m 90 6)<|tk (ia 91 6 89 90)<|tk (fa 92 5 91)<|tk (l1 93 92)<|tk (bc 94 .neq 93 0)<|tk (m 95 94)<|tk (fG 96 95 true 4 1)<|tk (laG 97 95 true 2 96)<|tk (mG 98 95 true 5)<|tk (mG 99 95 true 6)<|tk (iG 100 95 true 6 98 99)<|tk (fG 101 95 true 5 100)<|tk (lG 102 95 true 101)<|.one (k2G 103 95 true 16 97 102)<|tk (nG 104 95 true 103)<|tk (aN 105 95 104)<|.leaf)<|
cd [1,5,6] 105 (sr [2] [mb 2 false]<|
.ret) no)<|
rg [1,5,6] [m 87 6,bc 88 .add 87 1,m 6 88]
def F11:Zg:=⟨1,106,[.tmp 2],false,sr [1] [bx 1 0,mb 2 false]<|
.seq (sr [1,32] [fa 7 0 1,la 8 4 7,k1 9 34 8,nt 10 9,m 11 10,fG 12 11 false 4 1,laG 13 11 false 2 12,k1G 14 11 false 35 13,nG 15 11 false 14,oR 16 11 15,m 17 16,fG 18 17 false 6 1,laG 19 17 false 2 18,k1G 20 17 false 36 19,nG 21 17 false 20,oR 22 17 21,m 23 22,fG 24 23 false 8 1,lG 25 23 false 24,bcG 26 23 false .lss 25 0,oR 27 23 26,m 28 27,fG 29 28 false 8 1,lG 30 28 false 29,bcG 31 28 false .gtr 30 1099511627775,oR 32 28 31]<|
cd [1] 32 (sr [2] [mb 2 false]<|
.ret) no)<|
.seq (sr [1,3] [mi 3 0]<|
.block [1] 0<|
.loop [1,3] [] Zc4)<|
sr [1,5] [fa 80 0 1,la 81 4 80,k1 82 15 81,m 5 82]<|
.seq (sr [1,5,6] [mi 6 0]<|
.block [] 2<|
.loop [1,5,6] [] Zc5)<|
sr [2] [mb 2 true]<|
.ret⟩
theorem c11:cF Tryz.prog 11 F11=some F11:=by kernel_rfl
def F12:Zg:=⟨0,169,[.tmp 0],false,sr [] [mb 0 false]<|
sr [1,2] [k0 20 18,⟨some 21,none,.build gQ [(0,1,(.c (.g (.int .i64 4)))),(1,1,(.c (.g (.int .i64 3)))),(2,1,(.c (.g (.int .i64 1)))),(3,1,(.c (.g (.bool true)))),(8,1,(.c (.g (.int .i64 10))))]⟩,k2 22 17 20 21,m 19 22,ex 23 0 19,ex 24 1 19,al 1 zS,al 2 zR,st 9 1 23,st 9 2 24]<|
.seq (.drw [2,3,4] 2<|
.hold [1]<|tk (la 26 9 1)<|
.alt ⟨some 27,none,.call (.c (.g (.fn 19))) [(.c (.g (.str [97]))),(.c (.g (.str [118]))),(.c (.g (.int .i64 1)))]⟩ (tk ⟨some 28,none,.build gQ [(0,1,(.c (.g (.int .i64 2)))),(1,1,(.c (.g (.int .i64 3)))),(2,1,(.c (.g (.int .i64 2)))),(3,1,(.c (.g (.bool true)))),(10,3,(.t 27))]⟩<|
.alt (k2 29 17 26 28) (tk (m 25 29)<|tk (ex 30 0 25)<|tk (ex 31 1 25)<|
.alt (aa 3 0 zS) (.one (aa 4 1 zR)<|.free<|.one (st 9 3 30)<|.one (st 9 4 31)<|.leaf) (.one (aa 4 1 zR)<|.one (aa 3 0 zS)<|.free<|.one (st 9 3 30)<|.one (st 9 4 31)<|.leaf)) (.alt (aa 3 0 zS) (.alt (k2 29 17 26 28) (tk (m 25 29)<|tk (ex 30 0 25)<|tk (ex 31 1 25)<|.one (aa 4 1 zR)<|.free<|.one (st 9 3 30)<|.one (st 9 4 31)<|.leaf) (.one (aa 4 1 zR)<|.one (k2 29 17 26 28)<|tk (m 25 29)<|tk (ex 30 0 25)<|tk (ex 31 1 25)<|.free<|.one (st 9 3 30)<|.one (st 9 4 31)<|.leaf)) (.one (aa 4 1 zR)<|
.alt (k2 29 17 26 28) (tk (m 25 29)<|tk (ex 30 0 25)<|tk (ex 31 1 25)<|.one (aa 3 0 zS)<|.free<|.one (st 9 3 30)<|.one (st 9 4 31)<|.leaf) (.one (aa 3 0 zS)<|.one (k2 29 17 26 28)<|tk (m 25 29)<|tk (ex 30 0 25)<|tk (ex 31 1 25)<|.free<|.one (st 9 3 30)<|.one (st 9 4 31)<|.leaf)))) (.alt (aa 3 0 zS) (.alt ⟨some 27,none,.call (.c (.g (.fn 19))) [(.c (.g (.str [97]))),(.c (.g (.str [118]))),(.c (.g (.int .i64 1)))]⟩ (tk ⟨some 28,none,.build gQ [(0,1,(.c (.g (.int .i64 2)))),(1,1,(.c (.g (.int .i64 3)))),(2,1,(.c (.g (.int .i64 2)))),(3,1,(.c (.g (.bool true)))),(10,3,(.t 27))]⟩<|
.alt (k2 29 17 26 28) (tk (m 25 29)<|tk (ex 30 0 25)<|tk (ex 31 1 25)<|.one (aa 4 1 zR)<|.free<|.one (st 9 3 30)<|.one (st 9 4 31)<|.leaf) (.one (aa 4 1 zR)<|.one (k2 29 17 26 28)<|tk (m 25 29)<|tk (ex 30 0 25)<|tk (ex 31 1 25)<|.free<|.one (st 9 3 30)<|.one (st 9 4 31)<|.leaf)) (.one (aa 4 1 zR)<|.one ⟨some 27,none,.call (.c (.g (.fn 19))) [(.c (.g (.str [97]))),(.c (.g (.str [118]))),(.c (.g (.int .i64 1)))]⟩<|tk ⟨some 28,none,.build gQ [(0,1,(.c (.g (.int .i64 2)))),(1,1,(.c (.g (.int .i64 3)))),(2,1,(.c (.g (.int .i64 2)))),(3,1,(.c (.g (.bool true)))),(10,3,(.t 27))]⟩<|.one (k2 29 17 26 28)<|tk (m 25 29)<|tk (ex 30 0 25)<|tk (ex 31 1 25)<|.free<|.one (st 9 3 30)<|.one (st 9 4 31)<|.leaf)) (.one (aa 4 1 zR)<|
.alt ⟨some 27,none,.call (.c (.g (.fn 19))) [(.c (.g (.str [97]))),(.c (.g (.str [118]))),(.c (.g (.int .i64 1)))]⟩ (tk ⟨some 28,none,.build gQ [(0,1,(.c (.g (.int .i64 2)))),(1,1,(.c (.g (.int .i64 3)))),(2,1,(.c (.g (.int .i64 2)))),(3,1,(.c (.g (.bool true)))),(10,3,(.t 27))]⟩<|
.alt (k2 29 17 26 28) (tk (m 25 29)<|tk (ex 30 0 25)<|tk (ex 31 1 25)<|.one (aa 3 0 zS)<|.free<|.one (st 9 3 30)<|.one (st 9 4 31)<|.leaf) (.one (aa 3 0 zS)<|.one (k2 29 17 26 28)<|tk (m 25 29)<|tk (ex 30 0 25)<|tk (ex 31 1 25)<|.free<|.one (st 9 3 30)<|.one (st 9 4 31)<|.leaf)) (.one (aa 3 0 zS)<|.one ⟨some 27,none,.call (.c (.g (.fn 19))) [(.c (.g (.str [97]))),(.c (.g (.str [118]))),(.c (.g (.int .i64 1)))]⟩<|tk ⟨some 28,none,.build gQ [(0,1,(.c (.g (.int .i64 2)))),(1,1,(.c (.g (.int .i64 3)))),(2,1,(.c (.g (.int .i64 2)))),(3,1,(.c (.g (.bool true)))),(10,3,(.t 27))]⟩<|.one (k2 29 17 26 28)<|tk (m 25 29)<|tk (ex 30 0 25)<|tk (ex 31 1 25)<|.free<|.one (st 9 3 30)<|.one (st 9 4 31)<|.leaf))))<|
sr [2,3,4,5,6] [la 33 9 3,⟨some 34,none,.build gQ [(0,1,(.c (.g (.int .i64 2)))),(1,1,(.c (.g (.int .i64 3)))),(2,1,(.c (.g (.int .i64 2)))),(3,1,(.c (.g (.bool true))))]⟩,k2 35 17 33 34,m 32 35,ex 36 0 32,ex 37 1 32,al 5 zS,al 6 zR,st 9 5 36,st 9 6 37]<|
.seq (.drw [2,3,4,5,6,7,8] 2<|
.hold [5]<|tk (la 39 9 5)<|
.alt ⟨some 40,none,.call (.c (.g (.fn 19))) [(.c (.g (.str [98]))),(.c (.g (.str [118]))),(.c (.g (.int .i64 2)))]⟩ (tk ⟨some 41,none,.build gQ [(0,1,(.c (.g (.int .i64 2)))),(1,1,(.c (.g (.int .i64 3)))),(2,1,(.c (.g (.int .i64 3)))),(10,3,(.t 40))]⟩<|
.alt (k2 42 17 39 41) (tk (m 38 42)<|tk (ex 43 0 38)<|tk (ex 44 1 38)<|
.alt (aa 7 0 zS) (.one (aa 8 1 zR)<|.free<|.one (st 9 7 43)<|.one (st 9 8 44)<|.leaf) (.one (aa 8 1 zR)<|.one (aa 7 0 zS)<|.free<|.one (st 9 7 43)<|.one (st 9 8 44)<|.leaf)) (.alt (aa 7 0 zS) (.alt (k2 42 17 39 41) (tk (m 38 42)<|tk (ex 43 0 38)<|tk (ex 44 1 38)<|.one (aa 8 1 zR)<|.free<|.one (st 9 7 43)<|.one (st 9 8 44)<|.leaf) (.one (aa 8 1 zR)<|.one (k2 42 17 39 41)<|tk (m 38 42)<|tk (ex 43 0 38)<|tk (ex 44 1 38)<|.free<|.one (st 9 7 43)<|.one (st 9 8 44)<|.leaf)) (.one (aa 8 1 zR)<|
.alt (k2 42 17 39 41) (tk (m 38 42)<|tk (ex 43 0 38)<|tk (ex 44 1 38)<|.one (aa 7 0 zS)<|.free<|.one (st 9 7 43)<|.one (st 9 8 44)<|.leaf) (.one (aa 7 0 zS)<|.one (k2 42 17 39 41)<|tk (m 38 42)<|tk (ex 43 0 38)<|tk (ex 44 1 38)<|.free<|.one (st 9 7 43)<|.one (st 9 8 44)<|.leaf)))) (.alt (aa 7 0 zS) (.alt ⟨some 40,none,.call (.c (.g (.fn 19))) [(.c (.g (.str [98]))),(.c (.g (.str [118]))),(.c (.g (.int .i64 2)))]⟩ (tk ⟨some 41,none,.build gQ [(0,1,(.c (.g (.int .i64 2)))),(1,1,(.c (.g (.int .i64 3)))),(2,1,(.c (.g (.int .i64 3)))),(10,3,(.t 40))]⟩<|
.alt (k2 42 17 39 41) (tk (m 38 42)<|tk (ex 43 0 38)<|tk (ex 44 1 38)<|.one (aa 8 1 zR)<|.free<|.one (st 9 7 43)<|.one (st 9 8 44)<|.leaf) (.one (aa 8 1 zR)<|.one (k2 42 17 39 41)<|tk (m 38 42)<|tk (ex 43 0 38)<|tk (ex 44 1 38)<|.free<|.one (st 9 7 43)<|.one (st 9 8 44)<|.leaf)) (.one (aa 8 1 zR)<|.one ⟨some 40,none,.call (.c (.g (.fn 19))) [(.c (.g (.str [98]))),(.c (.g (.str [118]))),(.c (.g (.int .i64 2)))]⟩<|tk ⟨some 41,none,.build gQ [(0,1,(.c (.g (.int .i64 2)))),(1,1,(.c (.g (.int .i64 3)))),(2,1,(.c (.g (.int .i64 3)))),(10,3,(.t 40))]⟩<|.one (k2 42 17 39 41)<|tk (m 38 42)<|tk (ex 43 0 38)<|tk (ex 44 1 38)<|.free<|.one (st 9 7 43)<|.one (st 9 8 44)<|.leaf)) (.one (aa 8 1 zR)<|
.alt ⟨some 40,none,.call (.c (.g (.fn 19))) [(.c (.g (.str [98]))),(.c (.g (.str [118]))),(.c (.g (.int .i64 2)))]⟩ (tk ⟨some 41,none,.build gQ [(0,1,(.c (.g (.int .i64 2)))),(1,1,(.c (.g (.int .i64 3)))),(2,1,(.c (.g (.int .i64 3)))),(10,3,(.t 40))]⟩<|
.alt (k2 42 17 39 41) (tk (m 38 42)<|tk (ex 43 0 38)<|tk (ex 44 1 38)<|.one (aa 7 0 zS)<|.free<|.one (st 9 7 43)<|.one (st 9 8 44)<|.leaf) (.one (aa 7 0 zS)<|.one (k2 42 17 39 41)<|tk (m 38 42)<|tk (ex 43 0 38)<|tk (ex 44 1 38)<|.free<|.one (st 9 7 43)<|.one (st 9 8 44)<|.leaf)) (.one (aa 7 0 zS)<|.one ⟨some 40,none,.call (.c (.g (.fn 19))) [(.c (.g (.str [98]))),(.c (.g (.str [118]))),(.c (.g (.int .i64 2)))]⟩<|tk ⟨some 41,none,.build gQ [(0,1,(.c (.g (.int .i64 2)))),(1,1,(.c (.g (.int .i64 3)))),(2,1,(.c (.g (.int .i64 3)))),(10,3,(.t 40))]⟩<|.one (k2 42 17 39 41)<|tk (m 38 42)<|tk (ex 43 0 38)<|tk (ex 44 1 38)<|.free<|.one (st 9 7 43)<|.one (st 9 8 44)<|.leaf))))<|
sr [2,3,4,5,6,7,8,10] [la 46 9 7,⟨some 47,none,.build gQ [(0,1,(.c (.g (.int .i64 1)))),(2,1,(.c (.g (.int .i64 9)))),(4,1,(.c (.g (.str [97]))))]⟩,k2 48 17 46 47,m 45 48,ex 49 0 45,ex 50 1 45,al 9 zS,al 10 zR,st 9 9 49,st 9 10 50]<|
sr [2,3,4,5,6,7,8,10,11] [la 51 9 7,⟨some 52,none,.call (.c (.g (.fn 13))) [(.t 51),(.c (.g (.int .i64 9)))]⟩,al 11 zS,st 9 11 52]<|
sr [2,3,4,5,6,7,8,10,11,12] [la 53 9 11,⟨some 54,none,.call (.c (.g (.fn 13))) [(.t 53),(.c (.g (.int .i64 1)))]⟩,al 12 zS,st 9 12 54]<|
sr [2,3,4,5,6,7,8,10,11,12,14] [la 56 9 12,⟨some 57,none,.build gQ [(0,1,(.c (.g (.int .i64 1)))),(4,1,(.c (.g (.str [97]))))]⟩,k2 58 17 56 57,m 55 58,ex 59 0 55,ex 60 1 55,al 13 zS,al 14 zR,st 9 13 59,st 9 14 60]<|
sr [2,3,4,5,6,7,8,10,11,12,14,16] [la 62 9 12,⟨some 63,none,.build gQ [(0,1,(.c (.g (.int .i64 5)))),(6,1,(.c (.g (.int .i64 1))))]⟩,k2 64 17 62 63,m 61 64,ex 65 0 61,ex 66 1 61,al 15 zS,al 16 zR,st 9 15 65,st 9 16 66]<|
sr [2,3,4,5,6,7,8,10,11,12,14,16,18] [la 68 9 12,⟨some 69,none,.build gQ []⟩,k2 70 17 68 69,m 67 70,ex 71 0 67,ex 72 1 67,al 17 zS,al 18 zR,st 9 17 71,st 9 18 72]<|
sr [0] [fa 73 4 2,l1 74 73,bc 75 .eql 74 1,m 76 75,fG 77 76 true 5 2,lG 78 76 true 77,bcG 79 76 true .eql 78 10,aN 80 76 79,m 81 80,fG 82 81 true 1 2,lG 83 81 true 82,bcG 84 81 true .eql 83 3,aN 85 81 84,m 86 85,fG 87 86 true 6 4,lG 88 86 true 87,aN 89 86 88,m 90 89,fG 91 90 true 3 4,lG 92 90 true 91,bcG 93 90 true .eql 92 1,aN 94 90 93,m 95 94,fG 96 95 true 6 6,lG 97 95 true 96,aN 98 95 97,m 99 98,laG 100 99 true 9 3,laG 101 99 true 9 5,k2G 102 99 true 14 100 101,aN 103 99 102,m 104 103,fG 105 104 true 0 8,lG 106 104 true 105,bcG 107 104 true .eql 106 6,aN 108 104 107,m 109 108,laG 110 109 true 9 5,laG 111 109 true 9 7,k2G 112 109 true 14 110 111,aN 113 109 112,m 114 113,fG 115 114 true 7 10,lG 116 114 true 115,lnG 117 114 true 116,bcG 118 114 true .eql 117 1,aN 119 114 118,m 120 119,fG 121 120 true 2 10,lG 122 120 true 121,bcG 123 120 true .eql 122 9,aN 124 120 123,m 125 124,fG 126 125 true 4 11,fG 127 125 true 1 126,lG 128 125 true 127,lnG 129 125 true 128,bcG 130 125 true .eql 129 1,aN 131 125 130,m 132 131,fG 133 132 true 4 12,fG 134 132 true 1 133,lG 135 132 true 134,lnG 136 132 true 135,bcG 137 132 true .eql 136 0,aN 138 132 137,m 139 138,fG 140 139 true 7 14,lG 141 139 true 140,lnG 142 139 true 141,bcG 143 139 true .eql 142 0,aN 144 139 143,m 145 144,fG 146 145 true 3 14,lG 147 145 true 146,bcG 148 145 true .eql 147 2,aN 149 145 148,m 150 149,fG 151 150 true 0 16,lG 152 150 true 151,bcG 153 150 true .eql 152 6,aN 154 150 153,m 155 154,fG 156 155 true 0 18,lG 157 155 true 156,bcG 158 155 true .eql 157 1,aN 159 155 158,m 160 159,laG 161 160 true 9 12,k1G 162 160 true 24 161,aN 163 160 162,m 164 163,⟨some 165,some (164,true),.build [gi,gi,gn,gn,gi,gn,gn,gn,gi] [(8,1,(.c (.g (.int .i64 (-1)))))]⟩,k1G 166 164 true 24 165,nG 167 164 true 166,aN 168 164 167,m 0 168]<|
.ret⟩
theorem c12:cF Tryz.prog 12 F12=some F12:=by kernel_rfl
def Zc6:IC :=
 sr [2,4,30,31,32,33] [bt 33 .lss 32 31]<|
.seq (cd [2,4,30,31,32] 33 no (.exit 0))<|
.seq (.block [2,4,30,31,32] 1<|
sr [2,4,6,30,31,32] [ia 34 1 30 32,l1 35 34,m 6 35]<|
rg [2,4,30,31,32] [la 37 9 2,m 38 6,k2 39 25 37 38,m 36 39,ex 40 0 36,ex 41 1 36,st 9 2 40])<|
rg [2,4,30,31,32] [bc 42 .add 32 1,m 32 42]
def F13:Zg:=⟨2,44,[.cell 4 true 9],false,sr [1,2,4] [bx 2 0,al 4 zS]<|
.seq (sr [1,2,4,19] [m 7 1,bc 8 .lss 7 0,m 9 8,mG 10 9 false 1,bcG 11 9 false .gtr 10 1000,oR 12 9 11,m 13 12,fG 14 13 false 8 2,lG 15 13 false 14,mG 16 13 false 1,⟨some 17,some (13,false),.bin .sub (.c (.g (.int .i64 1099511627775))) (.t 16)⟩,btG 18 13 false .gtr 15 17,oR 19 13 18]<|
cd [1,2,4] 19 (sr [4] [la 20 9 2,st 9 4 20]<|
.ret) no)<|
sr [2,4] [fa 21 8 2,l1 22 21,m 23 1,bt 24 .add 22 23,fa 25 8 2,st 1 25 24]<|
.seq (sr [2,4,30,31,32] [fa 26 4 2,la 27 2 26,fa 28 8 2,l1 29 28,k2 30 37 27 29,ln 31 30,mi 32 0]<|
.block [2,4] 0<|
.loop [2,4,30,31,32] [] Zc6)<|
sr [4] [la 43 9 2,st 9 4 43]<|
.ret⟩
theorem c13:cF Tryz.prog 13 F13=some F13:=by kernel_rfl
def F14:Zg:=⟨2,31,[.tmp 4],false,sr [2,3] [bx 2 0,bx 3 1,mb 4 false]<|
sr [4] [fa 5 0 2,la 6 4 5,fa 7 0 3,la 8 4 7,k2 9 38 6 8,m 10 9,fG 11 10 true 4 2,laG 12 10 true 2 11,fG 13 10 true 4 3,laG 14 10 true 2 13,k2G 15 10 true 39 12 14,aN 16 10 15,m 17 16,fG 18 17 true 6 2,laG 19 17 true 2 18,fG 20 17 true 6 3,laG 21 17 true 2 20,k2G 22 17 true 40 19 21,aN 23 17 22,m 24 23,fG 25 24 true 8 2,lG 26 24 true 25,fG 27 24 true 8 3,lG 28 24 true 27,btG 29 24 true .eql 26 28,aN 30 24 29,m 4 30]<|
.ret⟩
theorem c14:cF Tryz.prog 14 F14=some F14:=by kernel_rfl
def F15:Zg:=⟨1,10,[.tmp 2],false,sr [1] [bx 1 0,nr 2 6]<|
sr [2] [fa 3 2 1,l1 4 3,fa 5 3 1,l1 6 5,fa 7 0 1,l1 8 7,k3 9 41 4 6 8,m 2 9]<|
.ret⟩
theorem c15:cF Tryz.prog 15 F15=some F15:=by kernel_rfl
def F16:Zg:=⟨2,9,[.tmp 4],false,sr [1,2] [bx 2 0,mb 4 false]<|
sr [4] [la 5 2 2,m 6 1,k2 7 42 5 6,bc 8 .geq 7 0,m 4 8]<|
.ret⟩
theorem c16:cF Tryz.prog 16 F16=some F16:=by kernel_rfl
def F17:Zg:=⟨2,110,[.cell 4 true 9,.cell 5 true 9],false,sr [2,3,4,5] [bx 2 0,bx 3 1,al 4 zS,al 5 zR]<|
sr [2,3,4,5,6] [⟨some 14,none,.mkfn 43 [(.t 2),(.t 3)]⟩,m 6 14]<|
.seq (sr [2,3,4,5,6,17] [la 15 13 3,k1 16 44 15,nt 17 16]<|
cd [2,3,4,5,6] 17 (sr [4,5] [m 18 6,⟨some 19,none,.call (.t 18) [(.c (.g (.int .i64 1)))]⟩,ex 20 0 19,ex 21 1 19,st 9 4 20,st 9 5 21]<|
.ret) no)<|
.seq (sr [2,3,4,5,6,23] [fa 22 3 3,l1 23 22]<|
cd [2,3,4,5,6] 23 (sr [2,3,4,5,6,7,8,9] [fa 25 6 2,la 26 2 25,fa 27 1 3,l1 28 27,fa 29 2 3,l1 30 29,k3 31 45 26 28 30,m 24 31,ex 32 0 24,ex 33 1 24,ex 34 2 24,al 7 zR,st 9 7 32,m 8 33,m 9 34]<|
.block [2,3,4,5,6] 0<|
sr [2,3,4,5,6,7,9,35] [m 36 8,m 35 36]<|
cd [2,3,4,5,6] 35 (.seq (.drw [4,5] 0<|tk (la 37 9 2)<|tk (la 38 9 7)<|.one (st 9 4 37)<|.free<|.one (st 9 5 38)<|.leaf)<|
.ret) (sr [2,3,4,5,6,9,39] [m 40 9,bc 41 .neq 40 0,m 39 41]<|
cd [2,3,4,5,6] 39 (sr [4,5] [m 42 6,m 43 9,⟨some 44,none,.call (.t 42) [(.t 43)]⟩,ex 45 0 44,ex 46 1 44,st 9 4 45,st 9 5 46]<|
.ret) no)) no)<|
.seq (.drw [2,3,4,5,6,10,11] 0<|tk (fa 49 0 3)<|tk (l1 50 49)<|.one (k0 48 46)<|.one ⟨some 51,none,.mget true .i (some (.nfn)) (.t 48) (.t 50)⟩<|tk (m 47 51)<|tk (ex 52 0 47)<|tk (ex 53 1 47)<|.free<|tk (m 10 52)<|tk (m 11 53)<|.leaf)<|
.seq (sr [2,3,4,5,6,10,55] [m 54 11,nt 55 54]<|
cd [2,3,4,5,6,10] 55 (sr [4,5] [m 56 6,⟨some 57,none,.call (.t 56) [(.c (.g (.int .i64 1)))]⟩,ex 58 0 57,ex 59 1 57,st 9 4 58,st 9 5 59]<|
.ret) no)<|
sr [3,4,5,6,10,12] [la 60 9 2,fa 61 1 3,l1 62 61,fa 63 2 3,l1 64 63,⟨some 65,none,.build gR [(1,1,(.t 62)),(2,1,(.t 64))]⟩,⟨some 66,none,.build [gi,gi,gn,gn,gi,gn,gn,gn,gi,gi,gi,gi,gi,gi,gi,gb,gn,gn] [(0,9,(.t 60)),(9,9,(.t 65))]⟩,bx 67 66,m 12 67]<|
.seq (sr [3,4,5,6,12,13] [m 68 10,m 69 12,la 70 13 3,⟨some 71,none,.call (.t 68) [(.t 69),(.t 70)]⟩,m 13 71]<|
sr [3,4,5,6,12,13,73] [m 72 13,bc 73 .neq 72 0]<|
cd [3,4,5,12] 73 (sr [4,5] [m 74 6,m 75 13,⟨some 76,none,.call (.t 74) [(.t 75)]⟩,ex 77 0 76,ex 78 1 76,st 9 4 77,st 9 5 78]<|
.ret) no)<|
.seq (sr [3,4,5,12,80] [fa 79 3 3,l1 80 79]<|
cd [4,5,12] 80 (.drw [4,5,12] 0<|tk (m 82 12)<|tk (m 83 12)<|tk (nc 84 83)<|tk (fa 85 0 84)<|tk (fa 86 6 85)<|tk (la 87 2 86)<|tk (fa 88 1 3)<|tk (l1 89 88)<|tk (fa 90 2 3)<|tk (l1 91 90)<|tk (m 92 12)<|tk (nc 93 92)<|tk (fa 94 9 93)<|tk (la 95 9 94)<|.one ⟨some 96,none,.call (.c (.g (.fn 47))) [(.t 87),(.t 89),(.t 91),(.t 95)]⟩<|tk (m 81 96)<|tk (ex 97 0 81)<|tk (ex 98 1 81)<|.free<|tk (nc 99 82)<|tk (fa 100 0 99)<|tk (fa 101 6 100)<|.one (st 2 101 97)<|.leaf) no)<|
.seq (.drw [4,5] 0<|tk (m 102 12)<|tk (nc 103 102)<|tk (fa 104 0 103)<|tk (la 105 9 104)<|tk (m 106 12)<|tk (nc 107 106)<|tk (fa 108 9 107)<|tk (la 109 9 108)<|.one (st 9 4 105)<|.free<|.one (st 9 5 109)<|.leaf)<|
.ret⟩
theorem c17:cF Tryz.prog 17 F17=some F17:=by kernel_rfl
def F18:Zg:=⟨0,3,[.cell 0 true 9],false,sr [0] [al 0 zS]<|
sr [0] [k0 1 48,⟨some 2,none,.build [gi,gi,gn,gn,gi,gn,gn,gn,gi] [(0,4,(.t 1))]⟩,st 9 0 2]<|
.ret⟩
theorem c18:cF Tryz.prog 18 F18=some F18:=by kernel_rfl
def F19:Zg:=⟨3,16,[.cell 6 true 3],false,sr [0,1,2,6] [al 6 [.s 5,.s 4,.s 4]]<|
sr [6] [m 7 0,k1 8 49 7,⟨some 9,none,.bslice 5 1 [s0,i0,i0,i0,s0] [(0,5,(.t 8))]⟩,m 10 0,m 11 1,m 12 2,⟨some 13,none,.build [gb,gs,gs,gi] [(1,1,(.t 10)),(2,1,(.t 11)),(3,1,(.t 12))]⟩,⟨some 14,none,.bslice 4 1 [b0,s0,s0,i0] [(0,4,(.t 13))]⟩,⟨some 15,none,.build [gn,gn,gn] [(0,1,(.t 9)),(1,1,(.t 14))]⟩,st 3 6 15]<|
.ret⟩
theorem c19:cF Tryz.prog 19 F19=some F19:=by kernel_rfl
def F20:Zg:=⟨1,10,[.tmp 2],false,sr [1] [bx 1 0,nr 2 6]<|
sr [2] [fa 3 2 1,l1 4 3,fa 5 3 1,l1 6 5,fa 7 0 1,l1 8 7,k3 9 50 4 6 8,m 2 9]<|
.ret⟩
theorem c20:cF Tryz.prog 20 F20=some F20:=by kernel_rfl
def F21:Zg:=⟨2,15,[.tmp 4],false,sr [2,3] [bx 2 0,bx 3 1,mb 4 false]<|
sr [4] [la 5 9 2,k1 6 10 5,m 7 6,laG 8 7 true 9 2,k1G 9 7 true 11 8,aN 10 7 9,m 11 10,laG 12 11 true 13 3,k1G 13 11 true 30 12,aN 14 11 13,m 4 14]<|
.ret⟩
theorem c21:cF Tryz.prog 21 F21=some F21:=by kernel_rfl
def F22:Zg:=⟨2,78,[.cell 4 true 9,.cell 5 true 9],false,sr [2,3,4,5] [bx 2 0,bx 3 1,al 4 zS,al 5 zR]<|
sr [2,3,4,5,6] [fa 14 1 3,l1 15 14,fa 16 2 3,l1 17 16,⟨some 18,none,.build gR [(1,1,(.t 15)),(2,1,(.t 17))]⟩,al 6 zR,st 9 6 18]<|
.seq (sr [2,3,4,5,6,21] [la 19 13 3,k1 20 28 19,nt 21 20]<|
cd [2,3,4,5,6] 21 (sr [2,4,5,6] [fa 22 0 6,⟨none,none,.store 1 (.t 22) (.c (.g (.int .i64 1)))⟩]<|
.seq (.drw [4,5] 0<|tk (la 23 9 2)<|tk (la 24 9 6)<|.one (st 9 4 23)<|.free<|.one (st 9 5 24)<|.leaf)<|
.ret) no)<|
.seq (sr [2,3,4,5,6,26] [fa 25 3 3,l1 26 25]<|
cd [2,3,4,5,6] 26 (sr [2,3,4,5,6,7,8,9] [fa 28 6 2,la 29 2 28,fa 30 1 3,l1 31 30,fa 32 2 3,l1 33 32,k3 34 51 29 31 33,m 27 34,ex 35 0 27,ex 36 1 27,ex 37 2 27,al 7 zR,st 9 7 35,m 8 36,m 9 37]<|
.seq (sr [2,3,4,5,6,7,9,38] [m 38 8]<|
cd [2,3,4,5,6,9] 38 (.seq (.drw [4,5] 0<|tk (la 39 9 2)<|tk (la 40 9 7)<|.one (st 9 4 39)<|.free<|.one (st 9 5 40)<|.leaf)<|
.ret) no)<|
sr [2,3,4,5,6,9,42] [m 41 9,bc 42 .neq 41 0]<|
cd [2,3,4,5,6] 42 (sr [2,4,5,6] [m 43 9,fa 44 0 6,st 1 44 43]<|
.seq (.drw [4,5] 0<|tk (la 45 9 2)<|tk (la 46 9 6)<|.one (st 9 4 45)<|.free<|.one (st 9 5 46)<|.leaf)<|
.ret) no) no)<|
sr [2,3,4,5,6,10,11] [la 48 9 2,la 49 13 3,k2 50 52 48 49,m 47 50,ex 51 0 47,ex 52 1 47,al 10 zS,al 11 zR,st 9 10 51,st 9 11 52]<|
.seq (sr [2,3,4,5,6,10,11,55] [fa 53 0 11,l1 54 53,bc 55 .neq 54 0]<|
cd [3,4,5,10,11] 55 (sr [2,4,5,6] [fa 56 0 11,l1 57 56,fa 58 0 6,st 1 58 57]<|
.seq (.drw [4,5] 0<|tk (la 59 9 2)<|tk (la 60 9 6)<|.one (st 9 4 59)<|.free<|.one (st 9 5 60)<|.leaf)<|
.ret) no)<|
.seq (sr [3,4,5,10,11,62] [fa 61 3 3,l1 62 61]<|
cd [4,5,10,11] 62 (sr [4,5,10,11,12] [fa 64 6 10,la 65 2 64,fa 66 1 3,l1 67 66,fa 68 2 3,l1 69 68,la 70 9 11,⟨some 71,none,.call (.c (.g (.fn 53))) [(.t 65),(.t 67),(.t 69),(.t 70)]⟩,m 63 71,ex 72 0 63,ex 73 1 63,al 12 [.s 11,.s 2],st 2 12 72,m 13 73]<|
rg [4,5,10,11] [la 74 2 12,fa 75 6 10,st 2 75 74]) no)<|
.seq (.drw [4,5] 0<|tk (la 76 9 10)<|tk (la 77 9 11)<|.one (st 9 4 76)<|.free<|.one (st 9 5 77)<|.leaf)<|
.ret⟩
theorem c22:cF Tryz.prog 22 F22=some F22:=by kernel_rfl
def F23:Zg:=⟨2,66,[.tmp 4],false,sr [2,3] [bx 2 0,bx 3 1,mb 4 false]<|
sr [4] [fa 5 0 2,l1 6 5,fa 7 0 3,l1 8 7,bt 9 .eql 6 8,m 10 9,fG 11 10 true 1 2,lG 12 10 true 11,fG 13 10 true 1 3,lG 14 10 true 13,btG 15 10 true .eql 12 14,aN 16 10 15,m 17 16,fG 18 17 true 2 2,lG 19 17 true 18,fG 20 17 true 2 3,lG 21 17 true 20,btG 22 17 true .eql 19 21,aN 23 17 22,m 24 23,fG 25 24 true 3 2,lG 26 24 true 25,fG 27 24 true 3 3,lG 28 24 true 27,btG 29 24 true .eql 26 28,aN 30 24 29,m 31 30,fG 32 31 true 4 2,lG 33 31 true 32,fG 34 31 true 4 3,lG 35 31 true 34,btG 36 31 true .eql 33 35,aN 37 31 36,m 38 37,fG 39 38 true 5 2,lG 40 38 true 39,fG 41 38 true 5 3,lG 42 38 true 41,btG 43 38 true .eql 40 42,aN 44 38 43,m 45 44,fG 46 45 true 6 2,lG 47 45 true 46,fG 48 45 true 6 3,lG 49 45 true 48,⟨some 50,some (45,true),.eqs false false [.b] (.t 47) (.t 49)⟩,aN 51 45 50,m 52 51,fG 53 52 true 7 2,lG 54 52 true 53,fG 55 52 true 7 3,lG 56 52 true 55,k2G 57 52 true 54 54 56,aN 58 52 57,m 59 58,fG 60 59 true 8 2,lG 61 59 true 60,fG 62 59 true 8 3,lG 63 59 true 62,k2G 64 59 true 55 61 63,aN 65 59 64,m 4 65]<|
.ret⟩
theorem c23:cF Tryz.prog 23 F23=some F23:=by kernel_rfl
def Zc7:IC :=
 sr [1,34,35,36,37] [bt 37 .lss 36 35]<|
.seq (cd [1,34,35,36] 37 no (.exit 0))<|
.seq (.block [1,34,35,36] 1<|
sr [1,4,34,35,36] [ia 38 11 34 36,la 39 11 38,al 4 [zi,zi,zi,zi,zi,zi,zi,zi,zb,.s 6,.s 8],st 11 4 39]<|
sr [1,4,5,34,35,36] [fa 40 2 4,la 41 9 40,al 5 zR,st 9 5 41]<|
sr [1,34,35,36,63] [la 42 9 5,k1 43 59 42,nt 44 43,m 45 44,fG 46 45 false 0 5,lG 47 45 false 46,bcG 48 45 false .neq 47 0,oR 49 45 48,m 50 49,fG 51 50 false 1 5,lG 52 50 false 51,fG 53 50 false 0 4,lG 54 50 false 53,btG 55 50 false .neq 52 54,oR 56 50 55,m 57 56,fG 58 57 false 2 5,lG 59 57 false 58,fG 60 57 false 1 4,lG 61 57 false 60,btG 62 57 false .neq 59 61,oR 63 57 62]<|
cd [1,34,35,36] 63 (sr [2] [mb 2 false]<|
.ret) no)<|
rg [1,34,35,36] [bc 64 .add 36 1,m 36 64]
def F24:Zg:=⟨1,71,[.tmp 2],false,sr [1] [bx 1 0,mb 2 false]<|
.seq (sr [1,31] [fa 6 0 1,la 7 4 6,k1 8 56 7,nt 9 8,m 10 9,fG 11 10 false 4 1,laG 12 10 false 2 11,k1G 13 10 false 57 12,nG 14 10 false 13,oR 15 10 14,m 16 15,fG 17 16 false 6 1,laG 18 16 false 2 17,k1G 19 16 false 58 18,nG 20 16 false 19,oR 21 16 20,m 22 21,fG 23 22 false 8 1,lG 24 22 false 23,bcG 25 22 false .lss 24 0,oR 26 22 25,m 27 26,fG 28 27 false 8 1,lG 29 27 false 28,bcG 30 27 false .gtr 29 1099511627775,oR 31 27 30]<|
cd [1] 31 (sr [2] [mb 2 false]<|
.ret) no)<|
.seq (sr [1,34,35,36] [fa 32 6 1,fa 33 0 32,l1 34 33,ln 35 34,mi 36 0]<|
.block [1] 0<|
.loop [1,34,35,36] [] Zc7)<|
sr [2] [fa 65 0 1,la 66 4 65,k1 67 20 66,⟨some 68,none,.mkfn 61 [(.t 1)]⟩,k2 69 60 67 68,nt 70 69,m 2 70]<|
.ret⟩
theorem c24:cF Tryz.prog 24 F24=some F24:=by kernel_rfl
def F25:Zg:=⟨2,58,[.cell 4 true 9,.tmp 5],false,sr [1,2,4] [bx 2 0,al 4 zS,mi 5 0]<|
sr [1,2,4,6,7] [fa 11 4 2,la 12 2 11,m 13 1,k2 14 63 12 13,m 10 14,ex 15 0 10,ex 16 1 10,al 6 [zi,.s 3],st 2 6 15,m 7 16]<|
.seq (sr [1,2,4,6,7,18] [m 17 7,bc 18 .neq 17 0]<|
cd [1,2,4,6] 18 (sr [4,5] [la 19 9 2,m 20 7,st 9 4 19,m 5 20]<|
.ret) no)<|
.seq (.drw [2,4,6,8,9] 1<|tk (fa 21 0 2)<|tk (la 22 4 21)<|tk (fa 23 0 2)<|tk (la 24 4 23)<|tk (m 26 1)<|
.alt (k1 25 20 24) (.alt (k2 27 64 25 26) (.one (aa 8 0 [zi,zi,.s 6,.s 8])<|.one (st 4 8 22)<|.free<|tk (m 9 27)<|.leaf) (.one (aa 8 0 [zi,zi,.s 6,.s 8])<|.one (k2 27 64 25 26)<|.one (st 4 8 22)<|.free<|tk (m 9 27)<|.leaf)) (.one (aa 8 0 [zi,zi,.s 6,.s 8])<|.one (k1 25 20 24)<|.one (k2 27 64 25 26)<|.one (st 4 8 22)<|.free<|tk (m 9 27)<|.leaf))<|
.seq (sr [2,4,6,8,9,34] [fa 28 3 8,l1 29 28,ln 30 29,m 31 9,ln 32 31,bt 33 .add 30 32,bc 34 .gtr 33 60]<|
cd [2,4,6,8,9] 34 (rg [2,4,6,8,9] [la 36 4 8,fa 37 0 8,l1 38 37,k2 39 65 36 38,m 35 39,ex 40 0 35,ex 41 1 35,st 4 8 40]) no)<|
sr [2,4,6,7,8] [la 43 4 8,m 44 9,k2 45 66 43 44,m 42 45,ex 46 0 42,ex 47 1 42,ex 48 2 42,st 4 8 46,m 7 48]<|
.seq (sr [2,4,6,7,8,50] [m 49 7,bc 50 .neq 49 0]<|
cd [2,4,6,8] 50 (sr [4,5] [la 51 9 2,m 52 7,st 9 4 51,m 5 52]<|
.ret) no)<|
.seq (.drw [2,4] 0<|tk (la 53 4 8)<|tk (la 54 2 6)<|tk (fa 55 0 2)<|.one (st 4 55 53)<|.free<|tk (fa 56 4 2)<|.one (st 2 56 54)<|.leaf)<|
sr [4,5] [la 57 9 2,st 9 4 57,mi 5 0]<|
.ret⟩
theorem c25:cF Tryz.prog 25 F25=some F25:=by kernel_rfl
def F26:Zg:=⟨2,66,[.cell 4 true 9,.tmp 5],false,sr [1,2,4] [bx 2 0,al 4 zS,mi 5 0]<|
sr [1,2,4,6,7] [fa 16 4 2,la 17 2 16,m 18 1,k2 19 67 17 18,m 15 19,ex 20 0 15,ex 21 1 15,al 6 [zi,.s 3],st 2 6 20,m 7 21]<|
.seq (sr [1,2,4,6,7,23] [m 22 7,bc 23 .neq 22 0]<|
cd [1,2,4,6] 23 (sr [4,5] [la 24 9 2,m 25 7,st 9 4 24,m 5 25]<|
.ret) no)<|
sr [2,4,6,8] [fa 26 0 2,la 27 4 26,k1 28 15 27,m 29 1,k2 30 68 28 29,m 8 30]<|
sr [2,4,6,8,9] [fa 31 0 2,la 32 4 31,al 9 [zi,zi,.s 6,.s 8],st 4 9 32]<|
.seq (sr [2,4,6,8,9,39] [fa 33 3 9,l1 34 33,ln 35 34,m 36 8,ln 37 36,bt 38 .add 35 37,bc 39 .gtr 38 60]<|
cd [2,4,6,8,9] 39 (sr [2,4,6,8,9,10] [la 41 4 9,fa 42 0 9,l1 43 42,k2 44 69 41 43,m 40 44,ex 45 0 40,ex 46 1 40,al 10 [zi,zi,.s 6,.s 8],st 4 10 45,m 11 46]<|
rg [2,4,6,8,9] [la 47 4 10,st 4 9 47]) no)<|
sr [2,4,6,12,14] [la 49 4 9,m 50 8,k2 51 70 49 50,m 48 51,ex 52 0 48,ex 53 1 48,ex 54 2 48,al 12 [zi,zi,.s 6,.s 8],st 4 12 52,m 13 53,m 14 54]<|
.seq (sr [2,4,6,12,14,56] [m 55 14,bc 56 .neq 55 0]<|
cd [2,4,6,12] 56 (sr [4,5] [la 57 9 2,m 58 14,st 9 4 57,m 5 58]<|
.ret) no)<|
sr [4,5] [la 59 4 12,la 60 2 6,fa 61 6 2,la 62 2 61,fa 63 8 2,l1 64 63,⟨some 65,none,.build [gi,gi,gn,gn,gi,gn,gn,gn,gi] [(0,4,(.t 59)),(4,2,(.t 60)),(6,2,(.t 62)),(8,1,(.t 64))]⟩,st 9 4 65,mi 5 0]<|
.ret⟩
theorem c26:cF Tryz.prog 26 F26=some F26:=by kernel_rfl
def Zc8:IC :=
 .seq (sr [1,3,69] [m 64 3,fa 65 10 1,fa 66 0 65,l1 67 66,ln 68 67,bt 69 .lss 64 68]<|
cd [1,3] 69 no (.exit 0))<|
.seq (.block [1,3] 1<|
sr [1,3,4] [fa 72 10 1,fa 73 0 72,l1 74 73,m 75 3,ia 76 5 74 75,la 77 5 76,al 4 [zs,zi,zi,zi,zs],st 5 4 77]<|
sr [1,3,109] [fa 78 0 4,l1 79 78,fa 80 4 4,l1 81 80,k2 82 73 79 81,nt 83 82,m 84 83,fG 85 84 false 1 4,lG 86 84 false 85,bcG 87 84 false .lss 86 1,oR 88 84 87,m 89 88,fG 90 89 false 1 4,lG 91 89 false 90,bcG 92 89 false .gtr 91 4,oR 93 89 92,m 94 93,fG 95 94 false 2 4,lG 96 94 false 95,bcG 97 94 false .lss 96 1,oR 98 94 97,m 99 98,fG 100 99 false 2 4,lG 101 99 false 100,bcG 102 99 false .gtr 101 3,oR 103 99 102,m 104 103,fG 105 104 false 3 4,lG 106 104 false 105,k1G 107 104 false 72 106,nG 108 104 false 107,oR 109 104 108]<|
cd [1,3] 109 (sr [2] [mb 2 false]<|
.ret) no)<|
rg [1,3] [m 70 3,bc 71 .add 70 1,m 3 71]
def F28:Zg:=⟨1,120,[.tmp 2],false,sr [1] [bx 1 0,mb 2 false]<|
.seq (sr [1,63] [fa 5 0 1,l1 6 5,bc 7 .lss 6 1,m 8 7,fG 9 8 false 0 1,lG 10 8 false 9,bcG 11 8 false .gtr 10 8,oR 12 8 11,m 13 12,fG 14 13 false 1 1,lG 15 13 false 14,k1G 16 13 false 72 15,nG 17 13 false 16,oR 18 13 17,m 19 18,fG 20 19 false 2 1,lG 21 19 false 20,k1G 22 19 false 72 21,nG 23 19 false 22,oR 24 19 23,m 25 24,fG 26 25 false 6 1,lG 27 25 false 26,k1G 28 25 false 72 27,nG 29 25 false 28,oR 30 25 29,m 31 30,fG 32 31 false 7 1,lG 33 31 false 32,k1G 34 31 false 72 33,nG 35 31 false 34,oR 36 31 35,m 37 36,fG 38 37 false 8 1,lG 39 37 false 38,k1G 40 37 false 72 39,nG 41 37 false 40,oR 42 37 41,m 43 42,fG 44 43 false 9 1,lG 45 43 false 44,k1G 46 43 false 72 45,nG 47 43 false 46,oR 48 43 47,m 49 48,fG 50 49 false 4 1,lG 51 49 false 50,fG 52 49 false 5 1,lG 53 49 false 52,k2G 54 49 false 73 51 53,nG 55 49 false 54,oR 56 49 55,m 57 56,fG 58 57 false 10 1,fG 59 57 false 0 58,lG 60 57 false 59,lnG 61 57 false 60,bcG 62 57 false .gtr 61 4,oR 63 57 62]<|
cd [1] 63 (sr [2] [mb 2 false]<|
.ret) no)<|
.seq (sr [1,3] [mi 3 0]<|
.block [1] 0<|
.loop [1,3] [] Zc8)<|
sr [2] [fa 110 10 1,fa 111 1 110,l1 112 111,k1 113 74 112,m 114 113,fG 115 114 true 10 1,fG 116 114 true 2 115,lG 117 114 true 116,k1G 118 114 true 74 117,aN 119 114 118,m 2 119]<|
.ret⟩
theorem c28:cF Tryz.prog 28 F28=some F28:=by kernel_rfl
def Zjm:IC :=
 .seq (sr [1,3,59] [m 55 3,fa 56 7 1,l1 57 56,ln 58 57,bt 59 .lss 55 58]<|
cd [1,3] 59 no (.exit 0))<|
.seq (.block [1,3] 1<|
sr [1,3,68] [fa 62 7 1,l1 63 62,m 64 3,ia 65 6 63 64,la 66 6 65,k1 67 75 66,nt 68 67]<|
cd [1,3] 68 (sr [2] [mb 2 false]<|
.ret) no)<|
rg [1,3] [m 60 3,bc 61 .add 60 1,m 3 61]
def Zjn:IC :=
 .seq (sr [1,4,73] [m 69 4,fa 70 8 1,l1 71 70,ln 72 71,bt 73 .lss 69 72]<|
cd [1,4] 73 no (.exit 2))<|
.seq (.block [1,4] 3<|
sr [1,4,93] [fa 76 8 1,l1 77 76,m 78 4,ia 79 8 77 78,fa 80 2 79,la 81 6 80,k1 82 75 81,nt 83 82,m 84 83,fG 85 84 false 8 1,lG 86 84 false 85,mG 87 84 false 4,iG 88 84 false 8 86 87,fG 89 84 false 0 88,lG 90 84 false 89,k1G 91 84 false 72 90,nG 92 84 false 91,oR 93 84 92]<|
cd [1,4] 93 (sr [2] [mb 2 false]<|
.ret) no)<|
rg [1,4] [m 74 4,bc 75 .add 74 1,m 4 75]
def F29:Zg:=⟨1,94,[.tmp 2],false,sr [1] [bx 1 0,mb 2 false]<|
.seq (sr [1,54] [fa 5 0 1,l1 6 5,bc 7 .lss 6 0,m 8 7,fG 9 8 false 0 1,lG 10 8 false 9,bcG 11 8 false .gtr 10 14,oR 12 8 11,m 13 12,fG 14 13 false 1 1,lG 15 13 false 14,k1G 16 13 false 72 15,nG 17 13 false 16,oR 18 13 17,m 19 18,fG 20 19 false 2 1,lG 21 19 false 20,k1G 22 19 false 72 21,nG 23 19 false 22,oR 24 19 23,m 25 24,fG 26 25 false 3 1,lG 27 25 false 26,k1G 28 25 false 72 27,nG 29 25 false 28,oR 30 25 29,m 31 30,fG 32 31 false 4 1,lG 33 31 false 32,k1G 34 31 false 72 33,nG 35 31 false 34,oR 36 31 35,m 37 36,fG 38 37 false 5 1,lG 39 37 false 38,k1G 40 37 false 72 39,nG 41 37 false 40,oR 42 37 41,m 43 42,fG 44 43 false 7 1,lG 45 43 false 44,lnG 46 43 false 45,bcG 47 43 false .gtr 46 30,oR 48 43 47,m 49 48,fG 50 49 false 8 1,lG 51 49 false 50,lnG 52 49 false 51,bcG 53 49 false .gtr 52 30,oR 54 49 53]<|
cd [1] 54 (sr [2] [mb 2 false]<|
.ret) no)<|
.seq (sr [1,3] [mi 3 0]<|
.block [1] 0<|
.loop [1,3] [] Zjm)<|
.seq (sr [1,4] [mi 4 0]<|
.block [] 2<|
.loop [1,4] [] Zjn)<|
sr [2] [mb 2 true]<|
.ret⟩
theorem c29:cF Tryz.prog 29 F29=some F29:=by kernel_rfl
def Zjo:IC :=
 .seq (sr [1,3,40] [m 35 3,fa 36 10 1,fa 37 0 36,l1 38 37,ln 39 38,bt 40 .lss 35 39]<|
cd [1,3] 40 no (.exit 0))<|
.seq (.block [1,3] 1<|
sr [1,3,62] [fa 43 10 1,fa 44 0 43,l1 45 44,m 46 3,ia 47 5 45 46,fa 48 0 47,l1 49 48,⟨some 50,none,.lenS (.t 49)⟩,bc 51 .gtr 50 60,m 52 51,fG 53 52 false 10 1,fG 54 52 false 0 53,lG 55 52 false 54,mG 56 52 false 3,iG 57 52 false 5 55 56,fG 58 52 false 4 57,lG 59 52 false 58,⟨some 60,some (52,false),.lenS (.t 59)⟩,bcG 61 52 false .gtr 60 60,oR 62 52 61]<|
cd [1,3] 62 (sr [2] [mb 2 false]<|
.ret) no)<|
rg [1,3] [m 41 3,bc 42 .add 41 1,m 3 42]
def F30:Zg:=⟨1,73,[.tmp 2],false,sr [1] [bx 1 0,mb 2 false]<|
.seq (sr [1,34] [fa 4 4 1,l1 5 4,⟨some 6,none,.lenS (.t 5)⟩,bc 7 .gtr 6 60,m 8 7,fG 9 8 false 5 1,lG 10 8 false 9,⟨some 11,some (8,false),.lenS (.t 10)⟩,bcG 12 8 false .gtr 11 60,oR 13 8 12,m 14 13,fG 15 14 false 10 1,fG 16 14 false 0 15,lG 17 14 false 16,lnG 18 14 false 17,bcG 19 14 false .gtr 18 8,oR 20 14 19,m 21 20,fG 22 21 false 10 1,fG 23 21 false 1 22,lG 24 21 false 23,lnG 25 21 false 24,bcG 26 21 false .gtr 25 8,oR 27 21 26,m 28 27,fG 29 28 false 10 1,fG 30 28 false 2 29,lG 31 28 false 30,lnG 32 28 false 31,bcG 33 28 false .gtr 32 8,oR 34 28 33]<|
cd [1] 34 (sr [2] [mb 2 false]<|
.ret) no)<|
.seq (sr [1,3] [mi 3 0]<|
.block [1] 0<|
.loop [1,3] [] Zjo)<|
sr [2] [fa 63 10 1,fa 64 1 63,l1 65 64,k1 66 76 65,m 67 66,fG 68 67 true 10 1,fG 69 67 true 2 68,lG 70 67 true 69,k1G 71 67 true 76 70,aN 72 67 71,m 2 72]<|
.ret⟩
theorem c30:cF Tryz.prog 30 F30=some F30:=by kernel_rfl
def F31:Zg:=⟨2,31,[.tmp 4,.tmp 5],false,sr [1,2] [bx 2 0,nr 4 6,mi 5 0]<|
.seq (.block [1,2] 0<|
sr [1,2,6] [m 7 1,bc 8 .eql 7 0,m 6 8]<|
cd [1,2] 6 (rg [1,2] [fa 9 0 2,l1 10 9,m 1 10]) (sr [1,2,11] [m 12 1,bc 13 .lss 12 0,m 14 13,mG 15 14 false 1,fG 16 14 false 0 2,lG 17 14 false 16,btG 18 14 false .gtr 15 17,oR 19 14 18,m 11 19]<|
cd [1,2] 11 (sr [4,5] [nr 4 6,mi 5 8]<|
.ret) (sr [1,2,20] [m 21 1,fa 22 1 2,l1 23 22,bt 24 .lss 21 23,m 20 24]<|
cd [1,2] 20 (sr [4,5] [nr 4 6,mi 5 9]<|
.ret) no)))<|
sr [4,5] [fa 25 2 2,l1 26 25,fa 27 3 2,l1 28 27,m 29 1,k3 30 50 26 28 29,m 4 30,mi 5 0]<|
.ret⟩
theorem c31:cF Tryz.prog 31 F31=some F31:=by kernel_rfl
def F32:Zg:=⟨1,11,[.tmp 2],false,sr [1] [bx 1 0,mb 2 false]<|
sr [2] [fa 3 2 1,l1 4 3,⟨some 5,none,.call (.c (.g (.fn 77))) [(.t 4),(.c (.g (.int .i64 40)))]⟩,m 6 5,fG 7 6 true 3 1,lG 8 6 true 7,⟨some 9,some (6,true),.call (.c (.g (.fn 78))) [(.t 8),(.c (.g (.int .i64 70)))]⟩,aN 10 6 9,m 2 10]<|
.ret⟩
theorem c32:cF Tryz.prog 32 F32=some F32:=by kernel_rfl
def Zjp:IC :=
 .seq (sr [1,3,18] [m 14 3,fa 15 0 1,l1 16 15,ln 17 16,bt 18 .lss 14 17]<|
cd [1,3] 18 no (.exit 0))<|
.seq (.block [1,3] 1<|
sr [1,3,40] [fa 21 0 1,l1 22 21,m 23 3,ia 24 11 22 23,fa 25 2 24,fa 26 7 25,l1 27 26,⟨some 28,none,.call (.c (.g (.fn 77))) [(.t 27),(.c (.g (.int .i64 40)))]⟩,nt 29 28,m 30 29,fG 31 30 false 0 1,lG 32 30 false 31,mG 33 30 false 3,iG 34 30 false 11 32 33,fG 35 30 false 2 34,fG 36 30 false 8 35,lG 37 30 false 36,⟨some 38,some (30,false),.call (.c (.g (.fn 78))) [(.t 37),(.c (.g (.int .i64 40)))]⟩,nG 39 30 false 38,oR 40 30 39]<|
cd [1,3] 40 (sr [2] [mb 2 false]<|
.ret) no)<|
rg [1,3] [m 19 3,bc 20 .add 19 1,m 3 20]
def F33:Zg:=⟨1,41,[.tmp 2],false,sr [1] [bx 1 0,mb 2 false]<|
.seq (sr [1,13] [fa 4 0 1,l1 5 4,ln 6 5,bc 7 .gtr 6 40,m 8 7,fG 9 8 false 1 1,lG 10 8 false 9,lnG 11 8 false 10,bcG 12 8 false .gtr 11 20,oR 13 8 12]<|
cd [1] 13 (sr [2] [mb 2 false]<|
.ret) no)<|
.seq (sr [1,3] [mi 3 0]<|
.block [] 0<|
.loop [1,3] [] Zjp)<|
sr [2] [mb 2 true]<|
.ret⟩
theorem c33:cF Tryz.prog 33 F33=some F33:=by kernel_rfl
def Zjq:IC :=
 .seq (sr [1,3,45] [m 41 3,fa 42 2 1,l1 43 42,ln 44 43,bt 45 .lss 41 44]<|
cd [1,3] 45 no (.exit 0))<|
.seq (.block [1,3] 1<|
.seq (.drw [1,3,56] 0<|tk (fa 48 2 1)<|tk (l1 49 48)<|tk (m 50 3)<|tk (ia 51 6 49 50)<|tk (fa 52 3 51)<|tk (l1 53 52)<|tk (fa 54 1 1)<|tk (l1 55 54)<|tk (bt 56 .gtr 53 55)<|.leaf)<|
cd [1,3] 56 (sr [2] [mb 2 false]<|
.ret) no)<|
rg [1,3] [m 46 3,bc 47 .add 46 1,m 3 47]
def Zjr:IC :=
 .seq (sr [1,4,5,6,65] [m 61 6,fa 62 3 1,l1 63 62,ln 64 63,bt 65 .lss 61 64]<|
cd [1,4,5,6] 65 no (.exit 2))<|
.seq (.block [1,4,5,6] 3<|
sr [1,4,5,6,7] [fa 68 3 1,l1 69 68,m 70 6,ia 71 8 69 70,la 72 8 71,al 7 [zi,zb,zs,zs,zi,zi,zi,zi],st 8 7 72]<|
.seq (sr [1,4,6,7,96] [fa 73 0 7,l1 74 73,fa 75 1 1,l1 76 75,bt 77 .leq 74 76,m 78 77,fG 79 78 false 0 7,lG 80 78 false 79,mG 81 78 false 5,btG 82 78 false .lss 80 81,oR 83 78 82,m 84 83,fG 85 84 false 0 7,lG 86 84 false 85,fG 87 84 false 0 1,lG 88 84 false 87,btG 89 84 false .gtr 86 88,oR 90 84 89,m 91 90,mG 92 91 false 4,laG 93 91 false 8 7,k2G 94 91 false 80 92 93,nG 95 91 false 94,oR 96 91 95]<|
cd [1,4,6,7] 96 (sr [2] [mb 2 false]<|
.ret) no)<|
.seq (.drw [1,4,6,7] 0<|tk (m 97 4)<|tk (fa 98 3 1)<|tk (l1 99 98)<|tk (m 100 6)<|tk (m 101 6)<|tk (bc 102 .add 101 1)<|tk ⟨some 103,none,.slc 8 (.t 99) (some (.t 100)) (some (.t 102))⟩<|tk (fa 104 0 7)<|tk (l1 105 104)<|.one (k3 106 41 97 103 105)<|.free<|tk (m 4 106)<|.leaf)<|
sr [1,4,5,6] [fa 107 0 7,l1 108 107,m 5 108]<|
sr [1,4,5,6,111] [m 109 4,ln 110 109,bc 111 .gtr 110 30]<|
cd [1,4,5,6] 111 (sr [2] [mb 2 false]<|
.ret) no)<|
rg [1,4,5,6] [m 66 6,bc 67 .add 66 1,m 6 67]
def F34:Zg:=⟨1,112,[.tmp 2],false,sr [1] [bx 1 0,mb 2 false]<|
.seq (sr [1,40] [fa 8 1 1,l1 9 8,bc 10 .lss 9 0,m 11 10,fG 12 11 false 1 1,lG 13 11 false 12,fG 14 11 false 0 1,lG 15 11 false 14,btG 16 11 false .gtr 13 15,oR 17 11 16,m 18 17,fG 19 18 false 0 1,lG 20 18 false 19,bcG 21 18 false .gtr 20 1099511627774,oR 22 18 21,m 23 22,fG 24 23 false 2 1,lG 25 23 false 24,k1G 26 23 false 79 25,nG 27 23 false 26,oR 28 23 27,m 29 28,fG 30 29 false 2 1,lG 31 29 false 30,lnG 32 29 false 31,bcG 33 29 false .gtr 32 30,oR 34 29 33,m 35 34,fG 36 35 false 3 1,lG 37 35 false 36,lnG 38 35 false 37,bcG 39 35 false .gtr 38 60,oR 40 35 39]<|
cd [1] 40 (sr [2] [mb 2 false]<|
.ret) no)<|
.seq (sr [1,3] [mi 3 0]<|
.block [1] 0<|
.loop [1,3] [] Zjq)<|
sr [1,4] [fa 57 2 1,l1 58 57,m 4 58]<|
sr [1,4,5] [fa 59 1 1,l1 60 59,m 5 60]<|
.seq (sr [1,4,5,6] [mi 6 0]<|
.block [] 2<|
.loop [1,4,5,6] [] Zjr)<|
sr [2] [mb 2 true]<|
.ret⟩
theorem c34:cF Tryz.prog 34 F34=some F34:=by kernel_rfl
def Zjs:IC :=
 .seq (sr [1,3,19] [m 15 3,fa 16 1 1,l1 17 16,ln 18 17,bt 19 .lss 15 18]<|
cd [1,3] 19 no (.exit 0))<|
.seq (.block [1,3] 1<|
sr [1,3,4] [fa 22 1 1,l1 23 22,m 24 3,ia 25 3 23 24,la 26 3 25,al 4 [zi,zi,zi],st 3 4 26]<|
.seq (.drw [1,3,75] 0<|tk (fa 27 0 4)<|tk (l1 28 27)<|tk (bc 29 .lss 28 1)<|tk (m 30 29)<|tk (fG 31 30 false 0 4)<|tk (lG 32 30 false 31)<|tk (fG 33 30 false 0 1)<|tk (lG 34 30 false 33)<|tk (btG 35 30 false .gtr 32 34)<|tk (oR 36 30 35)<|tk (m 37 36)<|tk (mG 38 37 false 3)<|tk (bcG 39 37 false .gtr 38 0)<|tk (mG 40 37 false 39)<|tk (fG 41 40 true 1 1)<|tk (lG 42 40 true 41)<|tk (mG 43 40 true 3)<|tk (bcG 44 40 true .sub 43 1)<|tk (iG 45 40 true 3 42 44)<|tk (fG 46 40 true 0 45)<|tk (lG 47 40 true 46)<|tk (fG 48 40 true 0 4)<|tk (lG 49 40 true 48)<|tk (btG 50 40 true .geq 47 49)<|tk ⟨some 51,some (37,false),.pick (.t 40) (.t 50) (.c (.g (.bool false)))⟩<|tk (oR 52 37 51)<|tk (m 53 52)<|tk (fG 54 53 false 1 4)<|tk (lG 55 53 false 54)<|tk (bcG 56 53 false .lss 55 1)<|tk (oR 57 53 56)<|tk (m 58 57)<|tk (fG 59 58 false 1 4)<|tk (lG 60 58 false 59)<|tk (bcG 61 58 false .gtr 60 1000)<|tk (oR 62 58 61)<|tk (m 63 62)<|tk (fG 64 63 false 2 4)<|tk (lG 65 63 false 64)<|tk (bcG 66 63 false .lss 65 0)<|tk (oR 67 63 66)<|tk (m 68 67)<|tk (fG 69 68 false 2 4)<|tk (lG 70 68 false 69)<|tk (fG 71 68 false 1 4)<|tk (lG 72 68 false 71)<|tk ⟨some 73,some (68,false),.bin .add (.c (.g (.int .i64 1099511627775))) (.t 72)⟩<|tk (btG 74 68 false .gtr 70 73)<|tk (oR 75 68 74)<|.leaf)<|
cd [1,3] 75 (sr [2] [mb 2 false]<|
.ret) no)<|
rg [1,3] [m 20 3,bc 21 .add 20 1,m 3 21]
def F35:Zg:=⟨1,76,[.tmp 2],false,sr [1] [bx 1 0,mb 2 false]<|
.seq (sr [1,14] [fa 5 0 1,l1 6 5,k1 7 81 6,nt 8 7,m 9 8,fG 10 9 false 1 1,lG 11 9 false 10,lnG 12 9 false 11,bcG 13 9 false .gtr 12 8,oR 14 9 13]<|
cd [1] 14 (sr [2] [mb 2 false]<|
.ret) no)<|
.seq (sr [1,3] [mi 3 0]<|
.block [] 0<|
.loop [1,3] [] Zjs)<|
sr [2] [mb 2 true]<|
.ret⟩
theorem c35:cF Tryz.prog 35 F35=some F35:=by kernel_rfl
def Zc9:IC :=
 .seq (sr [1,3,4,52] [m 50 4,m 51 3,bt 52 .lss 50 51]<|
cd [1,3,4] 52 no (.exit 2))<|
.seq (.block [1,3,4] 3<|
.seq (.drw [1,3,4,82] 0<|tk (fa 55 0 1)<|tk (l1 56 55)<|tk (m 57 4)<|tk (ia 58 11 56 57)<|tk (fa 59 0 58)<|tk (l1 60 59)<|tk (fa 61 0 1)<|tk (l1 62 61)<|tk (m 63 3)<|tk (ia 64 11 62 63)<|tk (fa 65 0 64)<|tk (l1 66 65)<|tk (bt 67 .eql 60 66)<|tk (m 68 67)<|tk (fG 69 68 true 0 1)<|tk (lG 70 68 true 69)<|tk (mG 71 68 true 4)<|tk (iG 72 68 true 11 70 71)<|tk (fG 73 68 true 1 72)<|tk (lG 74 68 true 73)<|tk (fG 75 68 true 0 1)<|tk (lG 76 68 true 75)<|tk (mG 77 68 true 3)<|tk (iG 78 68 true 11 76 77)<|tk (fG 79 68 true 1 78)<|tk (lG 80 68 true 79)<|tk (btG 81 68 true .eql 74 80)<|tk (aN 82 68 81)<|.leaf)<|
cd [1,3,4] 82 (sr [2] [mb 2 false]<|
.ret) no)<|
rg [1,3,4] [m 53 4,bc 54 .add 53 1,m 4 54]
def Zda:IC :=
 .seq (sr [1,3,11] [m 7 3,fa 8 0 1,l1 9 8,ln 10 9,bt 11 .lss 7 10]<|
cd [1,3] 11 no (.exit 0))<|
.seq (.block [1,3] 1<|
.seq (.seq (.drw [1,3,39] 0<|tk (fa 14 0 1)<|tk (l1 15 14)<|tk (m 16 3)<|tk (ia 17 11 15 16)<|tk (fa 18 1 17)<|tk (l1 19 18)<|tk (la 20 2 1)<|tk (fa 21 0 1)<|tk (l1 22 21)<|tk (m 23 3)<|tk (ia 24 11 22 23)<|tk (fa 25 0 24)<|tk (l1 26 25)<|.one (k2 27 82 20 26)<|tk (bt 28 .leq 19 27)<|tk (m 29 28)<|tk (fG 30 29 true 1 1)<|tk (fG 32 29 true 0 1)<|tk (mG 34 29 true 3)<|
.alt (lG 31 29 true 30) (.one (lG 33 29 true 32)<|tk (iG 35 29 true 11 33 34)<|tk (fG 36 29 true 0 35)<|.one (lG 37 29 true 36)<|.one (k2G 38 29 true 83 31 37)<|tk (aN 39 29 38)<|.leaf) (.one (lG 33 29 true 32)<|tk (iG 35 29 true 11 33 34)<|tk (fG 36 29 true 0 35)<|
.alt (lG 31 29 true 30) (.one (lG 37 29 true 36)<|.one (k2G 38 29 true 83 31 37)<|tk (aN 39 29 38)<|.leaf) (.one (lG 37 29 true 36)<|.one (lG 31 29 true 30)<|.one (k2G 38 29 true 83 31 37)<|tk (aN 39 29 38)<|.leaf)))<|
cd [1,3] 39 (sr [2] [mb 2 false]<|
.ret) no)<|
.seq (.seq (.drw [1,3,49] 0<|tk (la 40 2 1)<|tk (fa 41 0 1)<|tk (l1 42 41)<|tk (m 43 3)<|tk (ia 44 11 42 43)<|tk (fa 45 0 44)<|tk (l1 46 45)<|.one (k2 47 84 40 46)<|tk (ln 48 47)<|tk (bc 49 .gtr 48 4)<|.leaf)<|
cd [1,3] 49 (sr [2] [mb 2 false]<|
.ret) no)<|
sr [1,3,4] [mi 4 0]<|
.block [1,3] 2<|
.loop [1,3,4] [] Zc9)<|
rg [1,3] [m 12 3,bc 13 .add 12 1,m 3 13]
def Zdb:IC :=
 .seq (sr [1,5,6,92] [m 90 6,m 91 5,bt 92 .lss 90 91]<|
cd [1,5,6] 92 no (.exit 6))<|
.seq (.block [1,5,6] 7<|
.seq (.drw [1,5,6,107] 0<|tk (fa 95 1 1)<|tk (l1 96 95)<|tk (m 97 6)<|tk (ia 98 2 96 97)<|tk (fa 99 0 98)<|tk (l1 100 99)<|tk (fa 101 1 1)<|tk (l1 102 101)<|tk (m 103 5)<|tk (ia 104 2 102 103)<|tk (fa 105 0 104)<|tk (l1 106 105)<|tk (bt 107 .eql 100 106)<|.leaf)<|
cd [1,5,6] 107 (sr [2] [mb 2 false]<|
.ret) no)<|
rg [1,5,6] [m 93 6,bc 94 .add 93 1,m 6 94]
def Zdc:IC :=
 .seq (sr [1,5,87] [m 83 5,fa 84 1 1,l1 85 84,ln 86 85,bt 87 .lss 83 86]<|
cd [1,5] 87 no (.exit 4))<|
.seq (.block [1,5] 5<|
sr [1,5,6] [mi 6 0]<|
.block [1,5] 6<|
.loop [1,5,6] [] Zdb)<|
rg [1,5] [m 88 5,bc 89 .add 88 1,m 5 89]
def F36:Zg:=⟨1,112,[.tmp 2],false,sr [1] [bx 1 0,mb 2 false]<|
.seq (sr [1,3] [mi 3 0]<|
.block [1] 0<|
.loop [1,3] [] Zda)<|
.seq (sr [1,5] [mi 5 0]<|
.block [1] 4<|
.loop [1,5] [] Zdc)<|
sr [2] [la 108 2 1,k1 109 85 108,ln 110 109,bc 111 .leq 110 8,m 2 111]<|
.ret⟩
theorem c36:cF Tryz.prog 36 F36=some F36:=by kernel_rfl
def Zjt:IC :=
 sr [1,5,9,10,11,12] [bt 12 .lss 11 10]<|
.seq (cd [1,5,9,10,11] 12 no (.exit 0))<|
.seq (.block [1,5,9,10,11] 1<|
sr [1,5,7,9,10,11] [ia 13 3 9 11,la 14 3 13,al 7 [zi,zi,zi],st 3 7 14]<|
sr [1,5,7,9,10,11,18] [fa 15 2 7,l1 16 15,m 17 1,bt 18 .leq 16 17]<|
cd [1,5,9,10,11] 18 (rg [1,5,9,10,11] [m 19 5,fa 20 0 7,l1 21 20,⟨some 22,none,.bslice 1 1 [i0] [(0,1,(.t 21))]⟩,ap 23 1 8 19 22,m 5 23]) no)<|
rg [1,5,9,10,11] [bc 24 .add 11 1,m 11 24]
def F37:Zg:=⟨2,26,[.tmp 4],false,sr [1,2] [bx 2 0,nr 4 1]<|
sr [1,2,5] [nr 5 1]<|
.seq (sr [1,5,9,10,11] [fa 8 1 2,l1 9 8,ln 10 9,mi 11 0]<|
.block [5] 0<|
.loop [1,5,9,10,11] [] Zjt)<|
sr [4] [m 25 5,m 4 25]<|
.ret⟩
theorem c37:cF Tryz.prog 37 F37=some F37:=by kernel_rfl
def F38:Zg:=⟨2,31,[.tmp 4],false,sr [2,3] [bx 2 0,bx 3 1,mb 4 false]<|
sr [4] [fa 5 0 2,l1 6 5,fa 7 0 3,l1 8 7,bt 9 .eql 6 8,m 10 9,fG 11 10 true 1 2,lG 12 10 true 11,fG 13 10 true 1 3,lG 14 10 true 13,btG 15 10 true .eql 12 14,aN 16 10 15,m 17 16,fG 18 17 true 2 2,lG 19 17 true 18,fG 20 17 true 2 3,lG 21 17 true 20,k2G 22 17 true 54 19 21,aN 23 17 22,m 24 23,fG 25 24 true 3 2,lG 26 24 true 25,fG 27 24 true 3 3,lG 28 24 true 27,k2G 29 24 true 55 26 28,aN 30 24 29,m 4 30]<|
.ret⟩
theorem c38:cF Tryz.prog 38 F38=some F38:=by kernel_rfl
def Zju:IC :=
 .seq (sr [2,3,5,24] [m 20 5,fa 21 1 2,l1 22 21,ln 23 22,bt 24 .lss 20 23]<|
cd [2,3,5] 24 no (.exit 0))<|
.seq (.block [2,3,5] 1<|
.seq (.drw [2,3,5,37] 0<|tk (fa 27 1 2)<|tk (l1 28 27)<|tk (m 29 5)<|tk (ia 30 3 28 29)<|tk (la 31 3 30)<|tk (fa 32 1 3)<|tk (l1 33 32)<|tk (m 34 5)<|tk (ia 35 3 33 34)<|tk (la 36 3 35)<|tk ⟨some 37,none,.eqs true true [.i,.i,.i] (.t 31) (.t 36)⟩<|.leaf)<|
cd [2,3,5] 37 (sr [4] [mb 4 false]<|
.ret) no)<|
rg [2,3,5] [m 25 5,bc 26 .add 25 1,m 5 26]
def F39:Zg:=⟨2,38,[.tmp 4],false,sr [2,3] [bx 2 0,bx 3 1,mb 4 false]<|
.seq (sr [2,3,19] [fa 6 0 2,l1 7 6,fa 8 0 3,l1 9 8,bt 10 .neq 7 9,m 11 10,fG 12 11 false 1 2,lG 13 11 false 12,lnG 14 11 false 13,fG 15 11 false 1 3,lG 16 11 false 15,lnG 17 11 false 16,btG 18 11 false .neq 14 17,oR 19 11 18]<|
cd [2,3] 19 (sr [4] [mb 4 false]<|
.ret) no)<|
.seq (sr [2,3,5] [mi 5 0]<|
.block [] 0<|
.loop [2,3,5] [] Zju)<|
sr [4] [mb 4 true]<|
.ret⟩
theorem c39:cF Tryz.prog 39 F39=some F39:=by kernel_rfl
def Zjv:IC :=
 .seq (sr [2,3,5,27] [m 23 5,fa 24 0 2,l1 25 24,ln 26 25,bt 27 .lss 23 26]<|
cd [2,3,5] 27 no (.exit 0))<|
.seq (.block [2,3,5] 1<|
.seq (.drw [2,3,5,73] 0<|tk (fa 30 0 2)<|tk (l1 31 30)<|tk (m 32 5)<|tk (ia 33 11 31 32)<|tk (fa 34 0 33)<|tk (l1 35 34)<|tk (fa 36 0 3)<|tk (l1 37 36)<|tk (m 38 5)<|tk (ia 39 11 37 38)<|tk (fa 40 0 39)<|tk (l1 41 40)<|tk (bt 42 .neq 35 41)<|tk (m 43 42)<|tk (fG 44 43 false 0 2)<|tk (lG 45 43 false 44)<|tk (mG 46 43 false 5)<|tk (iG 47 43 false 11 45 46)<|tk (fG 48 43 false 1 47)<|tk (lG 49 43 false 48)<|tk (fG 50 43 false 0 3)<|tk (lG 51 43 false 50)<|tk (mG 52 43 false 5)<|tk (iG 53 43 false 11 51 52)<|tk (fG 54 43 false 1 53)<|tk (lG 55 43 false 54)<|tk (btG 56 43 false .neq 49 55)<|tk (oR 57 43 56)<|tk (m 58 57)<|tk (fG 59 58 false 0 2)<|tk (lG 60 58 false 59)<|tk (mG 61 58 false 5)<|tk (iG 62 58 false 11 60 61)<|tk (fG 63 58 false 2 62)<|tk (laG 64 58 false 9 63)<|tk (fG 65 58 false 0 3)<|tk (lG 66 58 false 65)<|tk (mG 67 58 false 5)<|tk (iG 68 58 false 11 66 67)<|tk (fG 69 58 false 2 68)<|tk (laG 70 58 false 9 69)<|.one (k2G 71 58 false 23 64 70)<|tk (nG 72 58 false 71)<|tk (oR 73 58 72)<|.leaf)<|
cd [2,3,5] 73 (sr [4] [mb 4 false]<|
.ret) no)<|
rg [2,3,5] [m 28 5,bc 29 .add 28 1,m 5 29]
def Zjw:IC :=
 .seq (sr [2,3,6,78] [m 74 6,fa 75 1 2,l1 76 75,ln 77 76,bt 78 .lss 74 77]<|
cd [2,3,6] 78 no (.exit 2))<|
.seq (.block [2,3,6] 3<|
.seq (.drw [2,3,6,91] 0<|tk (fa 81 1 2)<|tk (l1 82 81)<|tk (m 83 6)<|tk (ia 84 2 82 83)<|tk (la 85 2 84)<|tk (fa 86 1 3)<|tk (l1 87 86)<|tk (m 88 6)<|tk (ia 89 2 87 88)<|tk (la 90 2 89)<|tk ⟨some 91,none,.eqs true true [.i,.i] (.t 85) (.t 90)⟩<|.leaf)<|
cd [2,3,6] 91 (sr [4] [mb 4 false]<|
.ret) no)<|
rg [2,3,6] [m 79 6,bc 80 .add 79 1,m 6 80]
def F40:Zg:=⟨2,92,[.tmp 4],false,sr [2,3] [bx 2 0,bx 3 1,mb 4 false]<|
.seq (sr [2,3,22] [fa 7 0 2,l1 8 7,ln 9 8,fa 10 0 3,l1 11 10,ln 12 11,bt 13 .neq 9 12,m 14 13,fG 15 14 false 1 2,lG 16 14 false 15,lnG 17 14 false 16,fG 18 14 false 1 3,lG 19 14 false 18,lnG 20 14 false 19,btG 21 14 false .neq 17 20,oR 22 14 21]<|
cd [2,3] 22 (sr [4] [mb 4 false]<|
.ret) no)<|
.seq (sr [2,3,5] [mi 5 0]<|
.block [2,3] 0<|
.loop [2,3,5] [] Zjv)<|
.seq (sr [2,3,6] [mi 6 0]<|
.block [] 2<|
.loop [2,3,6] [] Zjw)<|
sr [4] [mb 4 true]<|
.ret⟩
theorem c40:cF Tryz.prog 40 F40=some F40:=by kernel_rfl
def Zjx:IC :=
 .seq (sr [0,1,2,7,11] [m 8 7,m 9 1,ln 10 9,bt 11 .lss 8 10]<|
cd [0,1,2,7] 11 no (.exit 0))<|
.seq (.block [0,1,2,7] 1<|
.seq (sr [0,1,2,7,20] [m 14 1,m 15 7,ia 16 8 14 15,fa 17 0 16,l1 18 17,m 19 2,bt 20 .gtr 18 19]<|
cd [0,1,2,7] 20 (.exit 1) no)<|
sr [0,1,2,7,25] [m 21 1,m 22 7,ia 23 8 21 22,fa 24 1 23,l1 25 24]<|
cd [0,1,2,7] 25 (rg [0,1,2,7] [m 26 0,m 27 1,m 28 7,ia 29 8 27 28,fa 30 2 29,fa 31 0 30,l1 32 31,k2 33 86 26 32,m 0 33]) (rg [0,1,2,7] [m 34 0,m 35 1,m 36 7,ia 37 8 35 36,fa 38 2 37,la 39 6 38,k2 40 87 34 39,m 0 40]))<|
rg [0,1,2,7] [m 12 7,bc 13 .add 12 1,m 7 13]
def F41:Zg:=⟨3,42,[.tmp 6],false,sr [0,1,2] [nr 6 6]<|
.seq (sr [0,1,2,7] [mi 7 0]<|
.block [0] 0<|
.loop [0,1,2,7] [] Zjx)<|
sr [6] [m 41 0,m 6 41]<|
.ret⟩
theorem c41:cF Tryz.prog 41 F41=some F41:=by kernel_rfl
def Zjy:IC :=
 .seq (sr [1,2,5,10] [m 6 5,fa 7 1 2,l1 8 7,ln 9 8,bt 10 .lss 6 9]<|
cd [1,2,5] 10 no (.exit 0))<|
.seq (.block [1,2,5] 1<|
sr [1,2,5,20] [fa 13 1 2,l1 14 13,m 15 5,ia 16 3 14 15,fa 17 0 16,l1 18 17,m 19 1,bt 20 .eql 18 19]<|
cd [1,2,5] 20 (sr [4] [m 21 5,m 4 21]<|
.ret) no)<|
rg [1,2,5] [m 11 5,bc 12 .add 11 1,m 5 12]
def F42:Zg:=⟨2,22,[.tmp 4],false,sr [1,2] [bx 2 0,mi 4 0]<|
.seq (sr [1,2,5] [mi 5 0]<|
.block [] 0<|
.loop [1,2,5] [] Zjy)<|
sr [4] [mi 4 (-1)]<|
.ret⟩
theorem c42:cF Tryz.prog 42 F42=some F42:=by kernel_rfl
def F43:Zg:=⟨3,13,[.cell 4 true 9,.cell 5 true 9],false,sr [0,1,2,4,5] [al 4 zS,al 5 zR]<|
.seq (.drw [4,5] 0<|tk (la 6 9 1)<|tk (m 7 0)<|tk (fa 8 1 2)<|tk (l1 9 8)<|tk (fa 10 2 2)<|tk (l1 11 10)<|tk ⟨some 12,none,.build gR [(0,1,(.t 7)),(1,1,(.t 9)),(2,1,(.t 11))]⟩<|.one (st 9 4 6)<|.free<|.one (st 9 5 12)<|.leaf)<|
.ret⟩
theorem c43:cF Tryz.prog 43 F43=some F43:=by kernel_rfl
def F44:Zg:=⟨1,52,[.tmp 2],false,sr [1] [bx 1 0,mb 2 false]<|
.seq (sr [1,35] [fa 3 0 1,l1 4 3,bc 5 .lss 4 1,m 6 5,fG 7 6 false 0 1,lG 8 6 false 7,bcG 9 6 false .gtr 8 8,oR 10 6 9,m 11 10,fG 12 11 false 4 1,lG 13 11 false 12,fG 14 11 false 5 1,lG 15 11 false 14,k2G 16 11 false 88 13 15,nG 17 11 false 16,oR 18 11 17,m 19 18,fG 20 19 false 1 1,lG 21 19 false 20,fG 22 19 false 2 1,lG 23 19 false 22,fG 24 19 false 6 1,lG 25 19 false 24,fG 26 19 false 7 1,lG 27 19 false 26,fG 28 19 false 8 1,lG 29 19 false 28,fG 30 19 false 9 1,lG 31 19 false 30,⟨some 32,some (19,false),.bslice 1 6 [i0] [(0,1,(.t 21)),(1,1,(.t 23)),(2,1,(.t 25)),(3,1,(.t 27)),(4,1,(.t 29)),(5,1,(.t 31))]⟩,k1G 33 19 false 89 32,nG 34 19 false 33,oR 35 19 34]<|
cd [1] 35 (sr [2] [mb 2 false]<|
.ret) no)<|
sr [2] [fa 36 10 1,fa 37 0 36,l1 38 37,⟨some 39,none,.call (.c (.g (.fn 90))) [(.t 38),(.c (.g (.int .i64 4))),(.c (.g (.fn 91)))]⟩,m 40 39,fG 41 40 true 10 1,fG 42 40 true 1 41,lG 43 40 true 42,⟨some 44,some (40,true),.call (.c (.g (.fn 92))) [(.t 43),(.c (.g (.int .i64 4))),(.c (.g (.fn 93)))]⟩,aN 45 40 44,m 46 45,fG 47 46 true 10 1,fG 48 46 true 2 47,lG 49 46 true 48,⟨some 50,some (46,true),.call (.c (.g (.fn 92))) [(.t 49),(.c (.g (.int .i64 4))),(.c (.g (.fn 93)))]⟩,aN 51 46 50,m 2 51]<|
.ret⟩
theorem c44:cF Tryz.prog 44 F44=some F44:=by kernel_rfl
def F45:Zg:=⟨3,46,[.cell 6 true 9,.tmp 7,.tmp 8],false,sr [1,2,3,6] [bx 3 0,al 6 zR,mb 7 false,mi 8 0]<|
sr [1,2,3,6,9] [m 12 1,m 13 2,⟨some 14,none,.build [gi,gi] [(0,1,(.t 12)),(1,1,(.t 13))]⟩,al 9 [zi,zi],st 2 9 14]<|
.seq (sr [1,2,3,6,10] [fa 15 0 3,l1 16 15,⟨some 17,none,.mkfn 95 [(.t 9)]⟩,k2 18 94 16 17,m 10 18]<|
sr [1,2,3,6,10,20] [m 19 10,bc 20 .geq 19 0]<|
cd [1,2,3,6] 20 (sr [6,7,8] [fa 21 0 3,l1 22 21,m 23 10,ia 24 11 22 23,fa 25 2 24,la 26 9 25,st 9 6 26,mb 7 true,mi 8 0]<|
.ret) no)<|
.seq (sr [1,3,6,31] [m 27 2,la 28 2 3,m 29 1,k2 30 97 28 29,bt 31 .leq 27 30]<|
cd [1,3,6] 31 (sr [6,7,8] [⟨some 32,none,.build gR []⟩,st 9 6 32,mb 7 false,mi 8 7]<|
.ret) no)<|
.seq (sr [1,6,11] [la 33 2 3,k1 34 98 33,m 11 34]<|
sr [6,43] [m 35 11,ln 36 35,bc 37 .geq 36 8,m 38 37,mG 39 38 true 11,mG 40 38 true 1,k2G 41 38 true 99 39 40,nG 42 38 true 41,aN 43 38 42]<|
cd [6] 43 (sr [6,7,8] [⟨some 44,none,.build gR []⟩,st 9 6 44,mb 7 false,mi 8 4]<|
.ret) no)<|
sr [6,7,8] [⟨some 45,none,.build gR []⟩,st 9 6 45,mb 7 false,mi 8 0]<|
.ret⟩
theorem c45:cF Tryz.prog 45 F45=some F45:=by kernel_rfl
def F46:Zg:=⟨0,3,[.tmp 0],true,sr [] [⟨some 0,none,.mov (.c (.g (.nmap)))⟩]<|
sr [0] [⟨some 1,none,.mkmap⟩,⟨none,none,.mset .i (.t 1) (.c (.g (.int .i64 1))) (.c (.g (.fn 100)))⟩,⟨none,none,.mset .i (.t 1) (.c (.g (.int .i64 2))) (.c (.g (.fn 101)))⟩,⟨none,none,.mset .i (.t 1) (.c (.g (.int .i64 3))) (.c (.g (.fn 102)))⟩,⟨none,none,.mset .i (.t 1) (.c (.g (.int .i64 4))) (.c (.g (.fn 103)))⟩,⟨none,none,.mset .i (.t 1) (.c (.g (.int .i64 5))) (.c (.g (.fn 104)))⟩,⟨none,none,.mset .i (.t 1) (.c (.g (.int .i64 6))) (.c (.g (.fn 105)))⟩,⟨none,none,.mset .i (.t 1) (.c (.g (.int .i64 7))) (.c (.g (.fn 106)))⟩,m 2 1,m 0 2]<|
.ret⟩
theorem c46:Vz Tryz.prog 46 true (V9 F46.body)=some F46:=by kernel_rfl
end
end Go.Proofs.YtndfdnlbljhlgaaGreat
