/- The compiled functions of the seat, part IRg3. No conditions. -/
import Derived.Test.YtndfdnlbljhlgaaGreatAMJ3
import Derived.Test.YtndfdnlbljhlgaaGreatProg
import Derived.KernelRfl
namespace Go.Proofs.YtndfdnlbljhlgaaGreat
open Go Go.AM Go.Proofs Go.IR
noncomputable section
def Zwe:Zg:=⟨2,30,[.tmp 4],false,sr [0,3] [bx 3 1,mi 4 0]<|
.seq (.drw [0,5,6] 1<|tk (m 8 0)<|tk (nc 9 8)<|tk (fa 10 0 9)<|tk (fa 11 0 10)<|tk (la 12 4 11)<|tk (fa 13 7 3)<|tk (l1 14 13)<|
.alt (k2 15 65 12 14) (tk (m 7 15)<|tk (ex 16 0 7)<|tk (ex 17 1 7)<|.one (aa 5 0 [zi,zi,.s 6,.s 8])<|.free<|.one (st 4 5 16)<|tk (m 6 17)<|.leaf) (.one (aa 5 0 [zi,zi,.s 6,.s 8])<|.one (k2 15 65 12 14)<|tk (m 7 15)<|tk (ex 16 0 7)<|tk (ex 17 1 7)<|.free<|.one (st 4 5 16)<|tk (m 6 17)<|.leaf))<|
.seq (.drw [6] 0<|tk (m 18 0)<|tk (m 19 0)<|tk (la 20 4 5)<|tk (fa 21 0 5)<|tk (l1 22 21)<|tk (nc 23 18)<|tk (fa 24 0 23)<|tk (fa 25 0 24)<|.one (st 4 25 20)<|.free<|tk (nc 26 19)<|tk (fa 27 9 26)<|tk (fa 28 3 27)<|.one (st 1 28 22)<|.leaf)<|
sr [4] [m 29 6,m 4 29]<|
.ret⟩
theorem Z68:cF Tryz.prog 106 Zwe=some Zwe:=by kernel_rfl
def Z2k:IC :=
 sr [0,3,9,10,11,12] [bt 12 .lss 11 10]<|
.seq (cd [0,3,9,10,11] 12 no (.exit 0))<|
.seq (.block [0,3,9,10,11] 1<|
sr [0,3,5,9,10,11] [ia 13 1 9 11,l1 14 13,m 5 14]<|
sr [0,3,9,10,11] [m 15 3,m 16 5,ln 17 16,bt 18 .add 15 17,m 3 18]<|
sr [0,3,9,10,11,20] [m 19 3,bc 20 .lss 19 0]<|
cd [0,3,9,10,11] 20 (rg [0,3,9,10,11] [⟨some 21,none,.mkif 9 (.c (.g (.str [108,101,110,32,111,117,116,32,111,102,32,114,97,110,103,101])))⟩,⟨none,none,.row 0 []⟩]) no)<|
rg [0,3,9,10,11] [bc 22 .add 11 1,m 11 22]
def Z2l:IC :=
 sr [6,25,26,27,28] [bt 28 .lss 27 26]<|
.seq (cd [6,25,26,27] 28 no (.exit 2))<|
.seq (.block [6,25,26,27] 3<|
sr [6,8,25,26,27] [ia 29 1 25 27,l1 30 29,m 8 30]<|
rg [6,25,26,27] [m 31 6,m 32 8,ap 33 11 120 31 32,m 6 33])<|
rg [6,25,26,27] [bc 34 .add 27 1,m 27 34]
def Zwf:Zg:=⟨1,36,[.tmp 2],true,sr [0] [nr 2 11]<|
sr [0,3] [mi 3 0]<|
.seq (sr [0,3,9,10,11] [m 9 0,ln 10 9,mi 11 0]<|
.block [0,3] 0<|
.loop [0,3,9,10,11] [] Z2k)<|
sr [0,6] [m 23 3,⟨some 24,none,.call (.c (.g (.fn 158))) [(.c (.g (.nsl))),(.t 23)]⟩,m 6 24]<|
.seq (sr [6,25,26,27] [m 25 0,ln 26 25,mi 27 0]<|
.block [6] 2<|
.loop [6,25,26,27] [] Z2l)<|
sr [2] [m 35 6,m 2 35]<|
.ret⟩
theorem Z69:Vz Tryz.prog 107 true (V9 Zwf.body)=some Zwf:=by kernel_rfl
def As:IC :=
 sr [1,5,9,10,11,12] [bt 12 .lss 11 10]<|
.seq (cd [1,5,9,10,11] 12 no (.exit 0))<|
.seq (.block [1,5,9,10,11] 1<|
sr [1,5,7,9,10,11] [ia 13 11 9 11,la 14 11 13,al 7 [zi,zi,zi,zi,zi,zi,zi,zi,zb,.s 6,.s 8],st 11 7 14]<|
sr [1,5,7,9,10,11,18] [fa 15 0 7,l1 16 15,m 17 1,bt 18 .eql 16 17]<|
cd [1,5,9,10,11] 18 (rg [1,5,9,10,11] [m 19 5,fa 20 1 7,l1 21 20,⟨some 22,none,.bslice 1 1 [i0] [(0,1,(.t 21))]⟩,ap 23 1 8 19 22,m 5 23]) no)<|
rg [1,5,9,10,11] [bc 24 .add 11 1,m 11 24]
def Zwg:Zg:=⟨2,28,[.tmp 4],false,sr [1,2] [bx 2 0,nr 4 1]<|
sr [1,2,5] [nr 5 1]<|
.seq (sr [1,5,9,10,11] [fa 8 0 2,l1 9 8,ln 10 9,mi 11 0]<|
.block [5] 0<|
.loop [1,5,9,10,11] [] As)<|
sr [5] [m 25 5,k1 26 159 25]<|
sr [4] [m 27 5,m 4 27]<|
.ret⟩
theorem Z7a:cF Tryz.prog 108 Zwg=some Zwg:=by kernel_rfl
def Zwh:Zg:=⟨3,13,[.tmp 4],false,sr [1,2,3] [bx 3 0,mb 4 false]<|
.seq (.drw [4] 0<|tk (la 5 11 3)<|tk (l1 7 1)<|tk (l1 8 2)<|tk ⟨some 9,none,.iaddr 1 (.t 8) (.c (.g (.int .i64 0)))⟩<|tk (l1 10 9)<|tk ⟨some 11,none,.build [gi,gi] [(0,1,(.t 7)),(1,1,(.t 10))]⟩<|.one (k1 6 96 5)<|tk ⟨some 12,none,.eqs false true [.i,.i] (.t 6) (.t 11)⟩<|.free<|tk (m 4 12)<|.leaf)<|
.ret⟩
theorem Z7b:cF Tryz.prog 109 Zwh=some Zwh:=by kernel_rfl
def Zwi:Zg:=⟨3,33,[.tmp 6],false,sr [0,1,2] [nr 6 11]<|
sr [0,1,2] [m 8 0,m 9 1,m 10 2,m 11 0,ln 12 11,⟨some 13,none,.slc3 11 (.t 8) (some (.t 9)) (some (.t 10)) (some (.t 12))⟩]<|
.seq (sr [0,1,2,16] [m 14 1,m 15 2,bt 16 .eql 14 15]<|
cd [0,1,2] 16 (sr [6] [m 17 0,m 6 17]<|
.ret) no)<|
sr [0,1,2,7] [m 18 0,ln 19 18,m 7 19]<|
.seq (.drw [0,7] 0<|.free<|tk (m 20 0)<|tk (m 21 1)<|tk ⟨some 22,none,.slc 11 (.t 20) none (some (.t 21))⟩<|tk (m 23 0)<|tk (m 24 2)<|tk ⟨some 25,none,.slc 11 (.t 23) (some (.t 24)) none⟩<|.one (ap 26 11 120 22 25)<|tk (m 0 26)<|.leaf)<|
sr [0] [m 27 0,m 28 0,ln 29 28,m 30 7,⟨some 31,none,.slc 11 (.t 27) (some (.t 29)) (some (.t 30))⟩,⟨none,none,.clear [i0,i0,i0,i0,i0,i0,i0,i0,b0,.nsl,.nsl] (.t 31)⟩]<|
sr [6] [m 32 0,m 6 32]<|
.ret⟩
theorem Z7c:cF Tryz.prog 110 Zwi=some Zwi:=by kernel_rfl
def Zwj:Zg:=⟨3,34,[.tmp 6],false,sr [0,2,4] [bx 4 1,nr 6 2]<|
sr [0,2,4,7] [m 8 0,⟨some 9,none,.mkfn 161 [(.t 4)]⟩,k2 10 160 8 9,m 7 10]<|
.seq (sr [0,2,4,7,12] [m 11 7,bc 12 .lss 11 0]<|
cd [0,2,7] 12 (sr [6] [m 13 0,l1 14 4,m 15 2,⟨some 16,none,.build [gi,gi] [(0,1,(.t 14)),(1,1,(.t 15))]⟩,⟨some 17,none,.bslice 2 1 [i0,i0] [(0,2,(.t 16))]⟩,⟨some 18,none,.bslice 1 2 [.nsl] [(0,1,(.t 13)),(1,1,(.t 17))]⟩,k1 19 162 18,m 6 19]<|
.ret) no)<|
sr [0,2,7] [m 20 0,k1 21 163 20,m 0 21]<|
sr [0] [m 22 0,m 23 7,m 24 0,m 25 7,ia 26 2 24 25,fa 27 1 26,l1 28 27,m 29 2,⟨some 30,none,.mx (.t 28) [(.t 29)]⟩,ia 31 2 22 23,fa 32 1 31,st 1 32 30]<|
sr [6] [m 33 0,m 6 33]<|
.ret⟩
theorem Z7d:cF Tryz.prog 111 Zwj=some Zwj:=by kernel_rfl
def Zwk:Zg:=⟨1,8,[.tmp 2],false,sr [0] [nr 2 6]<|
.seq (sr [0,4] [m 3 0,⟨some 4,none,.isnilS false (.t 3)⟩]<|
cd [0] 4 (sr [2] [nr 2 6]<|
.ret) no)<|
sr [2] [⟨some 5,none,.mk0 6⟩,m 6 0,ap 7 6 64 5 6,m 2 7]<|
.ret⟩
theorem Z7e:cF Tryz.prog 112 Zwk=some Zwk:=by kernel_rfl
def Zwl:Zg:=⟨2,23,[.tmp 4],false,sr [0,1] [nr 4 6]<|
sr [0,5] [m 6 0,m 7 1,k1 8 164 7,k2 9 131 6 8,m 5 9]<|
.seq (sr [0,5,11] [m 10 5,bc 11 .lss 10 0]<|
cd [0,5] 11 (sr [4] [m 12 0,k1 13 112 12,m 4 13]<|
.ret) no)<|
.seq (.drw [4] 0<|.free<|tk (m 14 0)<|tk (m 15 5)<|tk ⟨some 16,none,.slc 6 (.t 14) none (some (.t 15))⟩<|tk (m 17 0)<|tk (m 18 5)<|tk (bc 19 .add 18 1)<|tk ⟨some 20,none,.slc 6 (.t 17) (some (.t 19)) none⟩<|.one ⟨some 21,none,.bslice 1 2 [.nsl] [(0,1,(.t 16)),(1,1,(.t 20))]⟩<|.one (k1 22 165 21)<|tk (m 4 22)<|.leaf)<|
.ret⟩
theorem Z7f:cF Tryz.prog 113 Zwl=some Zwl:=by kernel_rfl
def Au:IC :=
 sr [3,5,6,9,10,11,12] [bt 12 .lss 11 10]<|
.seq (cd [3,5,6,9,10,11] 12 no (.exit 0))<|
.seq (.block [3,5,6,9,10,11] 1<|
sr [3,5,6,8,9,10,11] [ia 13 6 9 11,la 14 6 13,al 8 [zs,zs,zi,zi,zi,zi],st 6 8 14]<|
.seq (.block [3,5,9,10,11] 2<|
sr [3,5,6,8,9,10,11,20] [m 21 6,m 22 21,fG 23 22 false 0 8,lG 24 22 false 23,fG 25 22 false 0 3,lG 26 22 false 25,btG 27 22 false .lss 24 26,oR 28 22 27,m 20 28]<|
cd [3,5,9,10,11] 20 (sr [3,5,6,9,10,11] [m 29 5,la 30 6 8,⟨some 31,none,.bslice 6 1 [s0,s0,i0,i0,i0,i0] [(0,6,(.t 30))]⟩,ap 32 6 64 29 31,m 5 32]<|
.exit 1) (sr [3,5,8,9,10,11,33] [fa 34 0 8,l1 35 34,fa 36 0 3,l1 37 36,bt 38 .eql 35 37,m 33 38]<|
cd [3,5,9,10,11] 33 (rg [3,5,9,10,11] [m 39 5,la 40 6 3,⟨some 41,none,.bslice 6 1 [s0,s0,i0,i0,i0,i0] [(0,6,(.t 40))]⟩,ap 42 6 64 39 41,m 5 42]) (rg [3,5,9,10,11] [m 15 5,la 16 6 3,la 17 6 8,⟨some 18,none,.bslice 6 2 [s0,s0,i0,i0,i0,i0] [(0,6,(.t 16)),(6,6,(.t 17))]⟩,ap 19 6 64 15 18,m 5 19])))<|
rg [3,5,6,9,10,11] [mb 6 true])<|
rg [3,5,6,9,10,11] [bc 43 .add 11 1,m 11 43]
def Zwm:Zg:=⟨2,51,[.tmp 4],false,sr [0,3] [bx 3 1,nr 4 6]<|
sr [0,3,5] [nr 5 6]<|
sr [0,3,5,6] [mb 6 false]<|
.seq no<|
.seq (sr [3,5,6,9,10,11] [m 9 0,ln 10 9,mi 11 0]<|
.block [3,5,6] 0<|
.loop [3,5,6,9,10,11] [] Au)<|
.seq (sr [3,5,45] [m 44 6,nt 45 44]<|
cd [5] 45 (rg [5] [m 46 5,la 47 6 3,⟨some 48,none,.bslice 6 1 [s0,s0,i0,i0,i0,i0] [(0,6,(.t 47))]⟩,ap 49 6 64 46 48,m 5 49]) no)<|
sr [4] [m 50 5,m 4 50]<|
.ret⟩
theorem Z7g:cF Tryz.prog 114 Zwm=some Zwm:=by kernel_rfl
def N8:IC :=
 .seq (sr [0,1,2,7,20] [m 9 7,m 10 0,ln 11 10,bt 12 .lss 9 11,m 13 12,mG 14 13 true 0,mG 15 13 true 7,iG 16 13 true 1 14 15,lG 17 13 true 16,mG 18 13 true 1,btG 19 13 true .lss 17 18,aN 20 13 19]<|
cd [0,1,2,7] 20 no (.exit 0))<|
.block [0,1,2,7] 1<|
rg [0,1,2,7] [m 21 7,bc 22 .add 21 1,m 7 22]
def Zwn:Zg:=⟨3,53,[.tmp 6],false,sr [0,1,2] [nr 6 1]<|
sr [0,1,2,7] [mi 7 0]<|
.seq (.block [0,1,2,7] 0<|
.loop [0,1,2,7] [] N8)<|
.seq (sr [0,1,7,37] [m 23 2,m 24 23,mG 25 24 true 7,mG 26 24 true 0,lnG 27 24 true 26,btG 28 24 true .lss 25 27,aN 29 24 28,m 30 29,mG 31 30 true 0,mG 32 30 true 7,iG 33 30 true 1 31 32,lG 34 30 true 33,mG 35 30 true 1,btG 36 30 true .eql 34 35,aN 37 30 36]<|
cd [0,1,7] 37 (sr [6] [m 38 0,m 6 38]<|
.ret) no)<|
sr [0,1,7,8] [⟨some 39,none,.mk0 1⟩,m 40 0,m 41 7,⟨some 42,none,.slc 1 (.t 40) none (some (.t 41))⟩,ap 43 1 8 39 42,m 8 43]<|
sr [0,7,8] [m 44 8,m 45 1,⟨some 46,none,.bslice 1 1 [i0] [(0,1,(.t 45))]⟩,ap 47 1 8 44 46,m 8 47]<|
sr [6] [m 48 8,m 49 0,m 50 7,⟨some 51,none,.slc 1 (.t 49) (some (.t 50)) none⟩,ap 52 1 8 48 51,m 6 52]<|
.ret⟩
theorem Z7h:cF Tryz.prog 115 Zwn=some Zwn:=by kernel_rfl
def Zwo:Zg:=⟨2,28,[.tmp 4,.tmp 5],false,sr [1,2] [bx 2 0,nr 4 6,mi 5 0]<|
.seq (sr [1,2,7] [m 6 1,bc 7 .eql 6 0]<|
cd [1,2] 7 (sr [4,5] [la 8 4 2,k1 9 15 8,m 4 9,mi 5 0]<|
.ret) no)<|
.seq (sr [1,2,17] [m 10 1,bc 11 .lss 10 0,m 12 11,mG 13 12 false 1,fG 14 12 false 0 2,lG 15 12 false 14,btG 16 12 false .gtr 13 15,oR 17 12 16]<|
cd [1,2] 17 (sr [4,5] [nr 4 6,mi 5 8]<|
.ret) no)<|
.seq (sr [1,2,21] [m 18 1,fa 19 1 2,l1 20 19,bt 21 .lss 18 20]<|
cd [1,2] 21 (sr [4,5] [nr 4 6,mi 5 9]<|
.ret) no)<|
sr [4,5] [fa 22 2 2,l1 23 22,fa 24 3 2,l1 25 24,m 26 1,k3 27 41 23 25 26,m 4 27,mi 5 0]<|
.ret⟩
theorem Z7i:cF Tryz.prog 116 Zwo=some Zwo:=by kernel_rfl
def Av:IC :=
 .seq (sr [0,1,5,6,10] [m 7 6,m 8 0,ln 9 8,bt 10 .lss 7 9]<|
cd [0,1,5,6] 10 no (.exit 0))<|
.seq (.block [0,1,5,6] 1<|
sr [0,1,5,6,33] [m 13 0,m 14 6,ia 15 6 13 14,fa 16 0 15,l1 17 16,⟨some 18,none,.lenS (.t 17)⟩,m 19 1,⟨some 20,none,.lenS (.t 19)⟩,bt 21 .geq 18 20,m 22 21,mG 23 22 true 0,mG 24 22 true 6,iG 25 22 true 6 23 24,fG 26 22 true 0 25,lG 27 22 true 26,mG 28 22 true 1,⟨some 29,some (22,true),.lenS (.t 28)⟩,⟨some 30,some (22,true),.slcS (.t 27) none (some (.t 29))⟩,mG 31 22 true 1,btG 32 22 true .eql 30 31,aN 33 22 32]<|
cd [0,1,5,6] 33 (rg [0,1,5,6] [m 34 5,m 35 0,m 36 6,ia 37 6 35 36,la 38 6 37,⟨some 39,none,.bslice 6 1 [s0,s0,i0,i0,i0,i0] [(0,6,(.t 38))]⟩,ap 40 6 64 34 39,m 5 40]) no)<|
rg [0,1,5,6] [m 11 6,bc 12 .add 11 1,m 6 12]
def Zwp:Zg:=⟨2,42,[.tmp 4],false,sr [0,1] [nr 4 6]<|
sr [0,1,5] [nr 5 6]<|
.seq (sr [0,1,5,6] [mi 6 0]<|
.block [5] 0<|
.loop [0,1,5,6] [] Av)<|
sr [4] [m 41 5,m 4 41]<|
.ret⟩
theorem Z7j:cF Tryz.prog 117 Zwp=some Zwp:=by kernel_rfl
def Aw:IC :=
 .seq (sr [1,2,5,9] [m 6 5,m 7 1,ln 8 7,bt 9 .lss 6 8]<|
cd [1,2,5] 9 no (.exit 0))<|
.seq (.block [1,2,5] 1<|
.seq (.drw [1,2,5,35] 0<|tk (m 12 1)<|tk (m 13 5)<|tk (ia 14 4 12 13)<|tk (fa 15 0 14)<|tk (l1 16 15)<|tk (nt 17 16)<|tk (m 18 17)<|tk (mG 19 18 true 1)<|tk (mG 20 18 true 5)<|tk (iG 21 18 true 4 19 20)<|tk (fG 22 18 true 3 21)<|tk (lG 23 18 true 22)<|tk (bcG 24 18 true .neq 23 0)<|tk (aN 25 18 24)<|tk (m 26 25)<|tk (laG 27 26 true 2 2)<|tk (mG 28 26 true 1)<|tk (mG 29 26 true 5)<|tk (iG 30 26 true 4 28 29)<|tk (fG 31 26 true 3 30)<|tk (lG 32 26 true 31)<|.one (k2G 33 26 true 16 27 32)<|tk (nG 34 26 true 33)<|tk (aN 35 26 34)<|.leaf)<|
cd [1,2,5] 35 (sr [4] [mb 4 false]<|
.ret) no)<|
rg [1,2,5] [m 10 5,bc 11 .add 10 1,m 5 11]
def Zwq:Zg:=⟨2,36,[.tmp 4],false,sr [1,2] [bx 2 0,mb 4 false]<|
.seq (sr [1,2,5] [mi 5 0]<|
.block [] 0<|
.loop [1,2,5] [] Aw)<|
sr [4] [mb 4 true]<|
.ret⟩
theorem Z7k:cF Tryz.prog 118 Zwq=some Zwq:=by kernel_rfl
def Ax:IC :=
 .seq (sr [2,3,4,8,35] [m 31 8,fa 32 0 3,l1 33 32,ln 34 33,bt 35 .lss 31 34]<|
cd [2,3,4,8] 35 no (.exit 0))<|
.seq (.block [2,3,4,8] 1<|
sr [2,3,4,8,71] [fa 38 0 3,l1 39 38,m 40 8,ia 41 5 39 40,fa 42 1 41,l1 43 42,bc 44 .lss 43 1,m 45 44,fG 46 45 false 0 3,lG 47 45 false 46,mG 48 45 false 8,iG 49 45 false 5 47 48,fG 50 45 false 1 49,lG 51 45 false 50,bcG 52 45 false .gtr 51 4,oR 53 45 52,m 54 53,fG 55 54 false 0 3,lG 56 54 false 55,mG 57 54 false 8,iG 58 54 false 5 56 57,fG 59 54 false 2 58,lG 60 54 false 59,bcG 61 54 false .lss 60 1,oR 62 54 61,m 63 62,fG 64 63 false 0 3,lG 65 63 false 64,mG 66 63 false 8,iG 67 63 false 5 65 66,fG 68 63 false 2 67,lG 69 63 false 68,bcG 70 63 false .gtr 69 3,oR 71 63 70]<|
cd [2,3,4,8] 71 (sr [4,5,6,7] [la 72 4 2,st 4 4 72,mb 5 false,nr 6 8,mi 7 1]<|
.ret) no)<|
rg [2,3,4,8] [m 36 8,bc 37 .add 36 1,m 8 37]
def Zwr:Zg:=⟨2,97,[.cell 4 true 4,.tmp 5,.tmp 6,.tmp 7],false,sr [2,3,4] [bx 2 0,bx 3 1,al 4 [zi,zi,.s 6,.s 8],mb 5 false,nr 6 8,mi 7 0]<|
.seq (sr [2,3,4,29] [fa 14 0 3,l1 15 14,ln 16 15,bc 17 .gtr 16 4,m 18 17,fG 19 18 false 1 3,lG 20 18 false 19,lnG 21 18 false 20,bcG 22 18 false .gtr 21 4,oR 23 18 22,m 24 23,fG 25 24 false 2 3,lG 26 24 false 25,lnG 27 24 false 26,bcG 28 24 false .gtr 27 4,oR 29 24 28]<|
cd [2,3,4] 29 (sr [4,5,6,7] [la 30 4 2,st 4 4 30,mb 5 false,nr 6 8,mi 7 1]<|
.ret) no)<|
.seq (sr [2,3,4,8] [mi 8 0]<|
.block [2,3,4] 0<|
.loop [2,3,4,8] [] Ax)<|
.seq (.drw [2,3,4,9] 0<|tk (la 73 4 2)<|tk (fa 75 0 3)<|tk (l1 76 75)<|.one (k1 74 15 73)<|.one (k2 77 166 74 76)<|.free<|tk (m 9 77)<|.leaf)<|
sr [2,3,4,9,10] [fa 78 2 3,l1 79 78,m 10 79]<|
.seq (sr [2,3,4,9,10,80] [m 80 9]<|
cd [2,4,9,10] 80 (rg [2,4,9,10] [fa 81 1 3,l1 82 81,m 10 82]) no)<|
sr [2,4,9,11,12,13] [la 84 4 2,m 85 10,k2 86 70 84 85,m 83 86,ex 87 0 83,ex 88 1 83,ex 89 2 83,al 11 [zi,zi,.s 6,.s 8],st 4 11 87,m 12 88,m 13 89]<|
.seq (sr [2,4,9,11,12,13,91] [m 90 13,bc 91 .neq 90 0]<|
cd [4,9,11,12] 91 (sr [4,5,6,7] [la 92 4 2,m 93 13,st 4 4 92,mb 5 false,nr 6 8,m 7 93]<|
.ret) no)<|
sr [4,5,6,7] [la 94 4 11,m 95 9,m 96 12,st 4 4 94,m 5 95,m 6 96,mi 7 0]<|
.ret⟩
theorem Z7l:cF Tryz.prog 119 Zwr=some Zwr:=by kernel_rfl
def Fv:IC :=
 .seq (sr [1,2,3,4,11,12,39] [m 35 12,fa 36 3 4,l1 37 36,ln 38 37,bt 39 .lss 35 38]<|
cd [1,2,3,4,11,12] 39 no (.exit 0))<|
.seq (.block [1,2,3,4,11,12] 1<|
sr [1,2,3,4,11,12,60] [fa 42 3 4,l1 43 42,m 44 12,ia 45 8 43 44,fa 46 0 45,l1 47 46,m 48 2,bt 49 .geq 47 48,m 50 49,fG 51 50 true 3 4,lG 52 50 true 51,mG 53 50 true 12,iG 54 50 true 8 52 53,fG 55 50 true 2 54,fG 56 50 true 0 55,lG 57 50 true 56,mG 58 50 true 1,k2G 59 50 true 167 57 58,aN 60 50 59]<|
cd [1,2,3,4,11,12] 60 (rg [1,2,3,4,11,12] [m 61 11,fa 62 3 4,l1 63 62,m 64 12,ia 65 8 63 64,la 66 8 65,⟨some 67,none,.bslice 8 1 [i0,b0,s0,s0,i0,i0,i0,i0] [(0,8,(.t 66))]⟩,ap 68 8 80 61 67,m 11 68]) no)<|
rg [1,2,3,4,11,12] [m 40 12,bc 41 .add 40 1,m 12 41]
def Fw:IC :=
 .seq (sr [11,13,14,15,100] [m 88 15,m 89 11,ln 90 89,bt 91 .lss 88 90,m 92 91,mG 93 92 true 11,mG 94 92 true 15,iG 95 92 true 8 93 94,fG 96 92 true 0 95,lG 97 92 true 96,mG 98 92 true 13,btG 99 92 true .lss 97 98,aN 100 92 99]<|
cd [11,13,14,15] 100 no (.exit 2))<|
.seq (.block [11,13,14,15] 3<|
rg [11,13,14,15] [m 103 14,m 104 11,m 105 15,ia 106 8 104 105,la 107 8 106,⟨some 108,none,.bslice 8 1 [i0,b0,s0,s0,i0,i0,i0,i0] [(0,8,(.t 107))]⟩,ap 109 8 80 103 108,m 14 109])<|
rg [11,13,14,15] [m 101 15,bc 102 .add 101 1,m 15 102]
def Zws:Zg:=⟨4,112,[.tmp 8,.tmp 9,.tmp 10],false,sr [1,2,3,4] [bx 4 0,nr 8 8,mi 9 0,mi 10 0]<|
.seq (sr [1,2,3,4,21] [m 16 3,bc 17 .lss 16 1,m 18 17,mG 19 18 false 3,bcG 20 18 false .gtr 19 30,oR 21 18 20]<|
cd [1,2,3,4] 21 (sr [8,9,10] [nr 8 8,mi 9 0,mi 10 1]<|
.ret) no)<|
.seq (sr [1,2,3,4,30] [m 22 2,bc 23 .lss 22 1,m 24 23,mG 25 24 false 2,fG 26 24 false 0 4,lG 27 24 false 26,bcG 28 24 false .add 27 1,btG 29 24 false .gtr 25 28,oR 30 24 29]<|
cd [1,2,3,4] 30 (sr [8,9,10] [nr 8 8,mi 9 0,mi 10 8]<|
.ret) no)<|
.seq (sr [1,2,3,4,34] [m 31 2,fa 32 1 4,l1 33 32,bt 34 .leq 31 33]<|
cd [1,2,3,4] 34 (sr [8,9,10] [nr 8 8,mi 9 0,mi 10 9]<|
.ret) no)<|
sr [1,2,3,4,11] [nr 11 8]<|
.seq (sr [1,2,3,4,11,12] [mi 12 0]<|
.block [3,4,11] 0<|
.loop [1,2,3,4,11,12] [] Fv)<|
.seq (sr [3,4,11,72] [m 69 11,ln 70 69,m 71 3,bt 72 .leq 70 71]<|
cd [3,11] 72 (.seq (.drw [8,9,10] 0<|tk (m 73 11)<|tk (fa 74 0 4)<|tk (l1 75 74)<|tk (bc 76 .add 75 1)<|tk (m 8 73)<|.free<|tk (m 9 76)<|tk (mi 10 0)<|.leaf)<|
.ret) no)<|
sr [11,13] [m 77 11,m 78 3,ia 79 8 77 78,fa 80 0 79,l1 81 80,m 13 81]<|
.seq (sr [11,13,87] [m 82 13,m 83 11,⟨some 84,none,.iaddr 8 (.t 83) (.c (.g (.int .i64 0)))⟩,fa 85 0 84,l1 86 85,bt 87 .eql 82 86]<|
cd [11,13] 87 (sr [8,9,10] [nr 8 8,mi 9 0,mi 10 4]<|
.ret) no)<|
sr [11,13,14] [nr 14 8]<|
.seq (sr [11,13,14,15] [mi 15 0]<|
.block [13,14] 2<|
.loop [11,13,14,15] [] Fw)<|
sr [8,9,10] [m 110 14,m 111 13,m 8 110,m 9 111,mi 10 0]<|
.ret⟩
theorem Z7m:cF Tryz.prog 120 Zws=some Zws:=by kernel_rfl
def Zwt:Zg:=⟨3,57,[.cell 6 true 2,.tmp 7,.tmp 8],false,sr [1,2,3,6] [bx 3 0,al 6 [zi,.s 3],mi 7 0,mi 8 0]<|
.seq (sr [1,2,3,6,20] [m 10 1,bc 11 .lss 10 1,m 12 11,mG 13 12 false 1,bcG 14 12 false .gtr 13 1000,oR 15 12 14,m 16 15,mG 17 16 false 2,k1G 18 16 false 81 17,nG 19 16 false 18,oR 20 16 19]<|
cd [1,2,3,6] 20 (sr [6,7,8] [la 21 2 3,st 2 6 21,mi 7 0,mi 8 1]<|
.ret) no)<|
.seq (sr [1,2,3,6,30] [fa 22 1 3,l1 23 22,ln 24 23,bc 25 .geq 24 8,m 26 25,fG 27 26 false 0 3,lG 28 26 false 27,bcG 29 26 false .geq 28 1099511627775,oR 30 26 29]<|
cd [1,2,3,6] 30 (sr [6,7,8] [la 31 2 3,st 2 6 31,mi 7 0,mi 8 4]<|
.ret) no)<|
sr [1,2,3,6,9] [fa 32 0 3,l1 33 32,bc 34 .add 33 1,⟨some 35,none,.build [gi,gn] [(0,1,(.t 34))]⟩,al 9 [zi,.s 3],st 2 9 35]<|
sr [1,2,6,9] [fa 36 1 9,l1 37 36,fa 38 1 3,l1 39 38,ap 40 3 24 37 39,fa 41 1 9,st 1 41 40]<|
sr [6,9] [fa 42 1 9,l1 43 42,fa 44 0 9,l1 45 44,m 46 1,m 47 2,m 48 1,bt 49 .add 47 48,⟨some 50,none,.build [gi,gi,gi] [(0,1,(.t 45)),(1,1,(.t 46)),(2,1,(.t 49))]⟩,⟨some 51,none,.bslice 3 1 [i0,i0,i0] [(0,3,(.t 50))]⟩,ap 52 3 24 43 51,fa 53 1 9,st 1 53 52]<|
.seq (.drw [6,7,8] 0<|tk (la 54 2 9)<|tk (fa 55 0 9)<|tk (l1 56 55)<|.one (st 2 6 54)<|.free<|tk (m 7 56)<|tk (mi 8 0)<|.leaf)<|
.ret⟩
theorem Z7n:cF Tryz.prog 121 Zwt=some Zwt:=by kernel_rfl
def Zwu:Zg:=⟨3,65,[.cell 6 true 2,.tmp 7,.tmp 8],false,sr [1,2,3,6] [bx 3 0,al 6 [zi,.s 3],mi 7 0,mi 8 0]<|
.seq (sr [1,2,3,6,13] [m 11 2,k1 12 81 11,nt 13 12]<|
cd [1,2,3,6] 13 (sr [6,7,8] [la 14 2 3,st 2 6 14,mi 7 0,mi 8 1]<|
.ret) no)<|
sr [2,3,6,9] [la 15 2 3,m 16 1,k2 17 42 15 16,m 9 17]<|
.seq (sr [2,3,6,9,19] [m 18 9,bc 19 .lss 18 0]<|
cd [2,3,6,9] 19 (sr [6,7,8] [la 20 2 3,st 2 6 20,mi 7 0,mi 8 6]<|
.ret) no)<|
sr [2,3,6,9,10] [fa 21 0 3,l1 22 21,⟨some 23,none,.build [gi,gn] [(0,1,(.t 22))]⟩,al 10 [zi,.s 3],st 2 10 23]<|
sr [2,6,9,10] [fa 24 1 10,l1 25 24,fa 26 1 3,l1 27 26,ap 28 3 24 25 27,fa 29 1 10,st 1 29 28]<|
.seq (.seq (.drw [2,6,9,10,44] 0<|tk (m 30 2)<|tk (fa 31 1 10)<|tk (l1 32 31)<|tk (m 33 9)<|tk (ia 34 3 32 33)<|tk (fa 35 1 34)<|tk (l1 36 35)<|tk (bt 37 .add 30 36)<|tk (fa 38 1 10)<|tk (l1 39 38)<|tk (m 40 9)<|tk (ia 41 3 39 40)<|tk (fa 42 2 41)<|tk (l1 43 42)<|tk (bt 44 .gtr 37 43)<|.leaf)<|
cd [6,9,10] 44 (.drw [6,9,10] 0<|tk (fa 45 1 10)<|tk (l1 46 45)<|tk (m 47 9)<|tk (m 48 2)<|tk (fa 49 1 10)<|tk (l1 50 49)<|tk (m 51 9)<|tk (ia 52 3 50 51)<|tk (fa 53 1 52)<|tk (l1 54 53)<|tk (bt 55 .add 48 54)<|.free<|tk (ia 56 3 46 47)<|tk (fa 57 2 56)<|.one (st 1 57 55)<|.leaf) no)<|
.seq (.drw [6,7,8] 0<|tk (la 58 2 10)<|tk (fa 59 1 10)<|tk (l1 60 59)<|tk (m 61 9)<|tk (ia 62 3 60 61)<|tk (fa 63 1 62)<|tk (l1 64 63)<|.one (st 2 6 58)<|.free<|tk (m 7 64)<|tk (mi 8 0)<|.leaf)<|
.ret⟩
theorem Z7o:cF Tryz.prog 122 Zwu=some Zwu:=by kernel_rfl
def Ay:IC :=
 sr [3,6,7,8,9] [bt 9 .lss 8 7]<|
.seq (cd [3,6,7,8] 9 no (.exit 0))<|
.seq (.block [3,6,7,8] 1<|
sr [3,5,6,7,8] [ia 10 6 6 8,la 11 6 10,al 5 [zs,zs,zi,zi,zi,zi],st 6 5 11]<|
.seq (sr [5,6,7,8,20] [la 12 6 5,k1 13 168 12,nt 14 13,m 15 14,fG 16 15 false 0 5,lG 17 15 false 16,mG 18 15 false 3,btG 19 15 false .leq 17 18,oR 20 15 19]<|
cd [5,6,7,8] 20 (sr [2] [mb 2 false]<|
.ret) no)<|
rg [3,6,7,8] [fa 21 0 5,l1 22 21,m 3 22])<|
rg [3,6,7,8] [bc 23 .add 8 1,m 8 23]
def Zwv:Zg:=⟨1,24,[.tmp 2],false,sr [0] [mb 2 false]<|
sr [0,3] [⟨some 3,none,.mov (.c (.g (.str [])))⟩]<|
.seq (sr [3,6,7,8] [m 6 0,ln 7 6,mi 8 0]<|
.block [] 0<|
.loop [3,6,7,8] [] Ay)<|
sr [2] [mb 2 true]<|
.ret⟩
theorem Z7p:cF Tryz.prog 123 Zwv=some Zwv:=by kernel_rfl
def Zww:Zg:=⟨2,9,[.tmp 3],false,sr [1,2] [bx 2 0,mb 3 false]<|
sr [3] [fa 4 3 2,l1 5 4,fa 6 1 1,l1 7 6,bt 8 .gtr 5 7,m 3 8]<|
.ret⟩
theorem Z7q:cF Tryz.prog 124 Zww=some Zww:=by kernel_rfl
def Zwx:Zg:=⟨2,49,[.tmp 4],false,sr [0,3] [bx 3 1,mb 4 false]<|
.seq (sr [0,3,9] [fa 8 1 3,l1 9 8]<|
cd [0,3] 9 (sr [3,5,6] [m 11 0,fa 12 2 3,fa 13 0 12,l1 14 13,k2 15 169 11 14,m 10 15,ex 16 0 10,ex 17 1 10,al 5 [zs,zs,zi,zi,zi,zi],st 6 5 16,m 6 17]<|
sr [4] [m 18 6,m 19 18,laG 20 19 true 6 5,fG 21 19 true 2 3,laG 22 19 true 6 21,⟨some 23,some (19,true),.eqs false true [.s,.s,.i,.i,.i,.i] (.t 20) (.t 22)⟩,aN 24 19 23,m 4 24]<|
.ret) no)<|
sr [3,7] [m 25 0,fa 26 2 3,fa 27 0 26,l1 28 27,fa 29 2 3,fa 30 1 29,l1 31 30,fa 32 2 3,fa 33 5 32,l1 34 33,⟨some 35,none,.build [gb,gs,gs,gi] [(1,1,(.t 28)),(2,1,(.t 31)),(3,1,(.t 34))]⟩,fa 36 0 3,l1 37 36,k3 38 170 25 35 37,al 7 [zs,zs,zi,zi,zi,zi],st 6 7 38]<|
sr [4] [fa 39 2 3,la 40 6 39,la 41 6 7,⟨some 42,none,.eqs false true [.s,.s,.i,.i,.i,.i] (.t 40) (.t 41)⟩,m 43 42,fG 44 43 true 2 3,laG 45 43 true 6 44,⟨some 46,some (43,true),.bslice 6 1 [s0,s0,i0,i0,i0,i0] [(0,6,(.t 45))]⟩,k1G 47 43 true 123 46,aN 48 43 47,m 4 48]<|
.ret⟩
theorem Z7r:cF Tryz.prog 125 Zwx=some Zwx:=by kernel_rfl
def Zwy:Zg:=⟨1,9,[.tmp 2],false,sr [0] [mb 2 false]<|
sr [2] [m 3 0,bc 4 .geq 3 0,m 5 4,mG 6 5 true 0,bcG 7 5 true .leq 6 1099511627775,aN 8 5 7,m 2 8]<|
.ret⟩
theorem Z7s:cF Tryz.prog 126 Zwy=some Zwy:=by kernel_rfl
def Zwz:Zg:=⟨3,17,[.tmp 6],false,sr [0,1,5] [bx 5 2,mb 6 false]<|
sr [6] [m 7 0,ln 8 7,m 9 1,bt 10 .leq 8 9,m 11 10,mG 12 11 true 0,⟨some 13,some (11,true),.mkfn 171 [(.t 5)]⟩,k2G 14 11 true 60 12 13,nG 15 11 true 14,aN 16 11 15,m 6 16]<|
.ret⟩
theorem Z7t:cF Tryz.prog 127 Zwz=some Zwz:=by kernel_rfl
def Zw0:Zg:=⟨1,20,[.tmp 2],false,sr [1] [bx 1 0,mb 2 false]<|
sr [2] [fa 3 0 1,l1 4 3,fa 5 1 1,l1 6 5,k2 7 88 4 6,m 8 7,fG 9 8 true 2 1,lG 10 8 true 9,fG 11 8 true 3 1,lG 12 8 true 11,fG 13 8 true 4 1,lG 14 8 true 13,fG 15 8 true 5 1,lG 16 8 true 15,⟨some 17,some (8,true),.bslice 1 4 [i0] [(0,1,(.t 10)),(1,1,(.t 12)),(2,1,(.t 14)),(3,1,(.t 16))]⟩,k1G 18 8 true 89 17,aN 19 8 18,m 2 19]<|
.ret⟩
theorem Z7u:cF Tryz.prog 128 Zw0=some Zw0:=by kernel_rfl
def Zw1:Zg:=⟨3,17,[.tmp 6],false,sr [0,1,5] [bx 5 2,mb 6 false]<|
sr [6] [m 7 0,ln 8 7,m 9 1,bt 10 .leq 8 9,m 11 10,mG 12 11 true 0,⟨some 13,some (11,true),.mkfn 173 [(.t 5)]⟩,k2G 14 11 true 172 12 13,nG 15 11 true 14,aN 16 11 15,m 6 16]<|
.ret⟩
theorem Z7v:cF Tryz.prog 129 Zw1=some Zw1:=by kernel_rfl
def Zw2:Zg:=⟨1,12,[.tmp 2],false,sr [1] [bx 1 0,mb 2 false]<|
sr [2] [fa 3 2 1,la 4 6 3,k1 5 128 4,m 6 5,fG 7 6 true 0 1,lG 8 6 true 7,⟨some 9,some (6,true),.bslice 1 1 [i0] [(0,1,(.t 8))]⟩,k1G 10 6 true 89 9,aN 11 6 10,m 2 11]<|
.ret⟩
theorem Z7w:cF Tryz.prog 130 Zw2=some Zw2:=by kernel_rfl
def Z2m:IC :=
 sr [0,1,7,8,9] [bt 9 .lss 8 7]<|
.seq (cd [0,1,7,8] 9 no (.exit 0))<|
.seq (.block [0,1,7,8] 1<|
sr [0,1,5,7,8] [m 10 8,m 5 10]<|
sr [0,1,5,7,8,16] [m 11 1,m 12 0,m 13 5,ia 14 6 12 13,la 15 6 14,⟨some 16,none,.call (.t 11) [(.t 15)]⟩]<|
cd [0,1,7,8] 16 (sr [4] [m 17 5,m 4 17]<|
.ret) no)<|
rg [0,1,7,8] [bc 18 .add 8 1,m 8 18]
def Zw3:Zg:=⟨2,19,[.tmp 4],false,sr [0,1] [mi 4 0]<|
.seq (sr [0,1,7,8] [m 6 0,ln 7 6,mi 8 0]<|
.block [] 0<|
.loop [0,1,7,8] [] Z2m)<|
sr [4] [mi 4 (-1)]<|
.ret⟩
theorem Z7x:cF Tryz.prog 131 Zw3=some Zw3:=by kernel_rfl
def Az:IC :=
 sr [1,5,9,10,11,12] [bt 12 .lss 11 10]<|
.seq (cd [1,5,9,10,11] 12 no (.exit 0))<|
.seq (.block [1,5,9,10,11] 1<|
sr [1,5,6,7,9,10,11] [m 13 11,ia 14 3 9 11,la 15 3 14,al 7 [zi,zi,zi],m 6 13,st 3 7 15]<|
.seq (sr [1,5,6,9,10,11,19] [fa 16 0 7,l1 17 16,m 18 1,bt 19 .neq 17 18]<|
cd [6] 19 (.exit 1) no)<|
sr [5] [m 20 6,m 5 20]<|
.exit 0)<|
rg [1,5,9,10,11] [bc 21 .add 11 1,m 11 21]
def Zw4:Zg:=⟨2,23,[.tmp 4],false,sr [1,2] [bx 2 0,mi 4 0]<|
sr [1,2,5] [mi 5 (-1)]<|
.seq no<|
.seq (sr [1,5,9,10,11] [fa 8 1 2,l1 9 8,ln 10 9,mi 11 0]<|
.block [5] 0<|
.loop [1,5,9,10,11] [] Az)<|
sr [4] [m 22 5,m 4 22]<|
.ret⟩
theorem Z7y:cF Tryz.prog 132 Zw4=some Zw4:=by kernel_rfl
def Z2n:IC :=
 sr [0,3,9,10,11,12] [bt 12 .lss 11 10]<|
.seq (cd [0,3,9,10,11] 12 no (.exit 0))<|
.seq (.block [0,3,9,10,11] 1<|
sr [0,3,5,9,10,11] [ia 13 1 9 11,l1 14 13,m 5 14]<|
sr [0,3,9,10,11] [m 15 3,m 16 5,ln 17 16,bt 18 .add 15 17,m 3 18]<|
sr [0,3,9,10,11,20] [m 19 3,bc 20 .lss 19 0]<|
cd [0,3,9,10,11] 20 (rg [0,3,9,10,11] [⟨some 21,none,.mkif 9 (.c (.g (.str [108,101,110,32,111,117,116,32,111,102,32,114,97,110,103,101])))⟩,⟨none,none,.row 0 []⟩]) no)<|
rg [0,3,9,10,11] [bc 22 .add 11 1,m 11 22]
def Z2o:IC :=
 sr [6,25,26,27,28] [bt 28 .lss 27 26]<|
.seq (cd [6,25,26,27] 28 no (.exit 2))<|
.seq (.block [6,25,26,27] 3<|
sr [6,8,25,26,27] [ia 29 1 25 27,l1 30 29,m 8 30]<|
rg [6,25,26,27] [m 31 6,m 32 8,ap 33 3 24 31 32,m 6 33])<|
rg [6,25,26,27] [bc 34 .add 27 1,m 27 34]
def Zw5:Zg:=⟨1,36,[.tmp 2],false,sr [0] [nr 2 3]<|
sr [0,3] [mi 3 0]<|
.seq (sr [0,3,9,10,11] [m 9 0,ln 10 9,mi 11 0]<|
.block [0,3] 0<|
.loop [0,3,9,10,11] [] Z2n)<|
sr [0,6] [m 23 3,⟨some 24,none,.call (.c (.g (.fn 174))) [(.c (.g (.nsl))),(.t 23)]⟩,m 6 24]<|
.seq (sr [6,25,26,27] [m 25 0,ln 26 25,mi 27 0]<|
.block [6] 2<|
.loop [6,25,26,27] [] Z2o)<|
sr [2] [m 35 6,m 2 35]<|
.ret⟩
theorem Z7z:cF Tryz.prog 133 Zw5=some Zw5:=by kernel_rfl
def Fx:IC :=
 .seq (sr [0,1,5,6,19] [m 16 6,m 17 0,ln 18 17,bt 19 .lss 16 18]<|
cd [0,1,5,6] 19 no (.exit 0))<|
.seq (.block [0,1,5,6] 1<|
sr [0,1,5,6,7] [m 22 0,m 23 6,ia 24 8 22 23,la 25 8 24,al 7 [zi,zb,zs,zs,zi,zi,zi,zi],st 8 7 25]<|
sr [0,1,5,6,7,29] [m 26 1,la 27 8 7,⟨some 28,none,.call (.t 26) [(.t 27)]⟩,nt 29 28]<|
cd [0,1,5,6] 29 (sr [0,1,5,6] [m 30 0,m 31 5,la 32 8 7,ia 33 8 30 31,st 8 33 32]<|
rg [0,1,5,6] [m 34 5,bc 35 .add 34 1,m 5 35]) no)<|
rg [0,1,5,6] [m 20 6,bc 21 .add 20 1,m 6 21]
def Zw6:Zg:=⟨2,42,[.tmp 4],false,sr [0,1] [nr 4 8]<|
sr [0,1,5] [m 8 0,m 9 1,k2 10 175 8 9,m 5 10]<|
.seq (sr [0,1,5,12] [m 11 5,bc 12 .eql 11 (-1)]<|
cd [0,1,5] 12 (sr [4] [m 13 0,m 4 13]<|
.ret) no)<|
.seq (sr [0,1,5,6] [m 14 5,bc 15 .add 14 1,m 6 15]<|
.block [0,5] 0<|
.loop [0,1,5,6] [] Fx)<|
sr [0,5] [m 36 0,m 37 5,⟨some 38,none,.slc 8 (.t 36) (some (.t 37)) none⟩,⟨none,none,.clear [i0,b0,s0,s0,i0,i0,i0,i0] (.t 38)⟩]<|
sr [4] [m 39 0,m 40 5,⟨some 41,none,.slc 8 (.t 39) none (some (.t 40))⟩,m 4 41]<|
.ret⟩
theorem Z70:cF Tryz.prog 134 Zw6=some Zw6:=by kernel_rfl
def Zw7:Zg:=⟨1,8,[.tmp 2],true,sr [0] [nr 2 8]<|
.seq (sr [0,4] [m 3 0,⟨some 4,none,.isnilS false (.t 3)⟩]<|
cd [0] 4 (sr [2] [nr 2 8]<|
.ret) no)<|
sr [2] [⟨some 5,none,.mk0 8⟩,m 6 0,ap 7 8 80 5 6,m 2 7]<|
.ret⟩
theorem Z71:Vz Tryz.prog 135 true (V9 Zw7.body)=some Zw7:=by kernel_rfl
def Zw8:Zg:=⟨2,8,[.tmp 3],false,sr [1,2] [bx 2 0,mb 3 false]<|
sr [3] [fa 4 0 2,l1 5 4,l1 6 1,bt 7 .leq 5 6,m 3 7]<|
.ret⟩
theorem Z72:cF Tryz.prog 136 Zw8=some Zw8:=by kernel_rfl
def A0:IC :=
 sr [0,3,9,10,11,12] [bt 12 .lss 11 10]<|
.seq (cd [0,3,9,10,11] 12 no (.exit 0))<|
.seq (.block [0,3,9,10,11] 1<|
sr [0,3,5,9,10,11] [ia 13 4 9 11,la 14 4 13,al 5 [zb,zs,zs,zi],st 4 5 14]<|
.seq (sr [0,3,5,7,9,10,11] [m 16 3,fa 17 1 5,l1 18 17,⟨some 19,none,.mget true .s none (.t 16) (.t 18)⟩,m 15 19,ex 20 0 15,ex 21 1 15,al 6 [],st 0 6 20,m 7 21]<|
sr [0,3,5,9,10,11,44] [m 22 7,m 23 22,fG 24 23 false 1 5,lG 25 23 false 24,k1G 26 23 false 176 25,nG 27 23 false 26,oR 28 23 27,m 29 28,fG 30 29 false 2 5,lG 31 29 false 30,⟨some 32,some (29,false),.lenS (.t 31)⟩,bcG 33 29 false .gtr 32 20,oR 34 29 33,m 35 34,fG 36 35 false 3 5,lG 37 35 false 36,bcG 38 35 false .lss 37 0,oR 39 35 38,m 40 39,fG 41 40 false 3 5,lG 42 40 false 41,bcG 43 40 false .gtr 42 1099511627775,oR 44 40 43]<|
cd [0,3,5,9,10,11] 44 (sr [2] [mb 2 false]<|
.ret) no)<|
rg [0,3,9,10,11] [m 45 3,fa 46 1 5,l1 47 46,⟨some 48,none,.build [] []⟩,⟨none,none,.mset .s (.t 45) (.t 47) (.t 48)⟩])<|
rg [0,3,9,10,11] [bc 49 .add 11 1,m 11 49]
def Zw9:Zg:=⟨1,53,[.tmp 2],false,sr [0] [mb 2 false]<|
sr [0,3] [⟨some 8,none,.mkmap⟩,m 3 8]<|
.seq (sr [0,3,9,10,11] [m 9 0,ln 10 9,mi 11 0]<|
.block [0] 0<|
.loop [0,3,9,10,11] [] A0)<|
sr [2] [m 50 0,ln 51 50,bc 52 .leq 51 30,m 2 52]<|
.ret⟩
theorem Z73:cF Tryz.prog 137 Zw9=some Zw9:=by kernel_rfl
def A1:IC :=
 sr [0,2,8,9,15,16,17,18] [bt 18 .lss 17 16]<|
.seq (cd [0,2,8,9,15,16,17] 18 no (.exit 0))<|
.seq (.block [0,2,8,9,15,16,17] 1<|
sr [0,2,8,9,11,15,16,17] [ia 19 4 15 17,la 20 4 19,al 11 [zb,zs,zs,zi],st 4 11 20]<|
sr [0,2,8,9,11,12,15,16,17] [m 21 2,fa 22 0 11,l1 23 22,⟨some 24,none,.build [gi,gb,gs,gs,gi,gi,gi,gi] [(0,1,(.t 21)),(1,1,(.t 23))]⟩,al 12 [zi,zb,zs,zs,zi,zi,zi,zi],st 8 12 24]<|
.seq (sr [0,2,8,9,11,12,15,16,17,26] [fa 25 0 11,l1 26 25]<|
cd [0,2,8,9,12,15,16,17] 26 (sr [0,2,8,9,12,13,14,15,16,17] [m 28 0,fa 29 1 11,l1 30 29,k2 31 169 28 30,m 27 31,ex 32 0 27,ex 33 1 27,al 13 [zs,zs,zi,zi,zi,zi],st 6 13 32,m 14 33]<|
.seq (sr [0,2,8,9,12,13,15,16,17,35] [m 34 14,nt 35 34]<|
cd [0,2,8,9,12,13,15,16,17] 35 (.exit 1) no)<|
rg [0,2,8,9,12,15,16,17] [la 36 6 13,fa 37 2 12,st 6 37 36]) (rg [0,2,8,9,12,15,16,17] [m 38 0,la 39 4 11,m 40 2,k3 41 170 38 39 40,fa 42 2 12,st 6 42 41]))<|
sr [0,2,8,9,12,15,16,17] [m 43 0,la 44 8 12,⟨some 45,none,.bslice 8 1 [i0,b0,s0,s0,i0,i0,i0,i0] [(0,8,(.t 44))]⟩,m 46 2,k3 47 50 43 45 46,m 0 47]<|
sr [0,2,8,9,12,15,16,17] [m 48 9,m 49 48,mG 50 49 false 0,lnG 51 49 false 50,bcG 52 49 false .gtr 51 30,oR 53 49 52,m 9 53]<|
rg [0,2,8,9,15,16,17] [m 54 8,la 55 8 12,⟨some 56,none,.bslice 8 1 [i0,b0,s0,s0,i0,i0,i0,i0] [(0,8,(.t 55))]⟩,ap 57 8 80 54 56,m 8 57])<|
rg [0,2,8,9,15,16,17] [bc 58 .add 17 1,m 17 58]
def Zxa:Zg:=⟨3,61,[.tmp 6,.tmp 7],false,sr [0,1,2] [nr 6 8,mb 7 false]<|
sr [0,1,2,8] [nr 8 8]<|
sr [0,1,2,8,9] [mb 9 false]<|
.seq (sr [0,2,8,9,15,16,17] [m 15 1,ln 16 15,mi 17 0]<|
.block [8,9] 0<|
.loop [0,2,8,9,15,16,17] [] A1)<|
sr [6,7] [m 59 8,m 60 9,m 6 59,m 7 60]<|
.ret⟩
theorem Z74:cF Tryz.prog 138 Zxa=some Zxa:=by kernel_rfl
def Z2p:IC :=
 sr [0,3,9,10,11,12] [bt 12 .lss 11 10]<|
.seq (cd [0,3,9,10,11] 12 no (.exit 0))<|
.seq (.block [0,3,9,10,11] 1<|
sr [0,3,5,9,10,11] [ia 13 1 9 11,l1 14 13,m 5 14]<|
sr [0,3,9,10,11] [m 15 3,m 16 5,ln 17 16,bt 18 .add 15 17,m 3 18]<|
sr [0,3,9,10,11,20] [m 19 3,bc 20 .lss 19 0]<|
cd [0,3,9,10,11] 20 (rg [0,3,9,10,11] [⟨some 21,none,.mkif 9 (.c (.g (.str [108,101,110,32,111,117,116,32,111,102,32,114,97,110,103,101])))⟩,⟨none,none,.row 0 []⟩]) no)<|
rg [0,3,9,10,11] [bc 22 .add 11 1,m 11 22]
def Z2q:IC :=
 sr [6,25,26,27,28] [bt 28 .lss 27 26]<|
.seq (cd [6,25,26,27] 28 no (.exit 2))<|
.seq (.block [6,25,26,27] 3<|
sr [6,8,25,26,27] [ia 29 1 25 27,l1 30 29,m 8 30]<|
rg [6,25,26,27] [m 31 6,m 32 8,ap 33 8 80 31 32,m 6 33])<|
rg [6,25,26,27] [bc 34 .add 27 1,m 27 34]
def Zxb:Zg:=⟨1,36,[.tmp 2],false,sr [0] [nr 2 8]<|
sr [0,3] [mi 3 0]<|
.seq (sr [0,3,9,10,11] [m 9 0,ln 10 9,mi 11 0]<|
.block [0,3] 0<|
.loop [0,3,9,10,11] [] Z2p)<|
sr [0,6] [m 23 3,⟨some 24,none,.call (.c (.g (.fn 177))) [(.c (.g (.nsl))),(.t 23)]⟩,m 6 24]<|
.seq (sr [6,25,26,27] [m 25 0,ln 26 25,mi 27 0]<|
.block [6] 2<|
.loop [6,25,26,27] [] Z2q)<|
sr [2] [m 35 6,m 2 35]<|
.ret⟩
theorem Z75:cF Tryz.prog 139 Zxb=some Zxb:=by kernel_rfl
def Fy:IC :=
 .seq (sr [0,3,4,48] [m 46 4,m 47 3,bt 48 .lss 46 47]<|
cd [0,3,4] 48 no (.exit 2))<|
.seq (.block [0,3,4] 3<|
.seq (.drw [0,3,4,61] 0<|tk (m 51 0)<|tk (m 52 4)<|tk (ia 53 4 51 52)<|tk (fa 54 1 53)<|tk (l1 55 54)<|tk (m 56 0)<|tk (m 57 3)<|tk (ia 58 4 56 57)<|tk (fa 59 1 58)<|tk (l1 60 59)<|.free<|tk (bt 61 .eql 55 60)<|.leaf)<|
cd [0,3,4] 61 (sr [2] [mb 2 false]<|
.ret) no)<|
rg [0,3,4] [m 49 4,bc 50 .add 49 1,m 4 50]
def A2:IC :=
 .seq (sr [0,3,11] [m 8 3,m 9 0,ln 10 9,bt 11 .lss 8 10]<|
cd [0,3] 11 no (.exit 0))<|
.seq (.block [0,3] 1<|
.seq (sr [0,3,45] [m 14 0,m 15 3,ia 16 4 14 15,fa 17 1 16,l1 18 17,k1 19 178 18,nt 20 19,m 21 20,mG 22 21 false 0,mG 23 21 false 3,iG 24 21 false 4 22 23,fG 25 21 false 2 24,lG 26 21 false 25,⟨some 27,some (21,false),.lenS (.t 26)⟩,bcG 28 21 false .gtr 27 20,oR 29 21 28,m 30 29,mG 31 30 false 0,mG 32 30 false 3,iG 33 30 false 4 31 32,fG 34 30 false 3 33,lG 35 30 false 34,bcG 36 30 false .lss 35 0,oR 37 30 36,m 38 37,mG 39 38 false 0,mG 40 38 false 3,iG 41 38 false 4 39 40,fG 42 38 false 3 41,lG 43 38 false 42,bcG 44 38 false .gtr 43 1099511627775,oR 45 38 44]<|
cd [0,3] 45 (sr [2] [mb 2 false]<|
.ret) no)<|
sr [0,3,4] [mi 4 0]<|
.block [0,3] 2<|
.loop [0,3,4] [] Fy)<|
rg [0,3] [m 12 3,bc 13 .add 12 1,m 3 13]
def Zxc:Zg:=⟨1,62,[.tmp 2],false,sr [0] [mb 2 false]<|
.seq (sr [0,7] [m 5 0,ln 6 5,bc 7 .gtr 6 30]<|
cd [0] 7 (sr [2] [mb 2 false]<|
.ret) no)<|
.seq (sr [0,3] [mi 3 0]<|
.block [] 0<|
.loop [0,3] [] A2)<|
sr [2] [mb 2 true]<|
.ret⟩
theorem Z76:cF Tryz.prog 140 Zxc=some Zxc:=by kernel_rfl
def A3:IC :=
 .seq (sr [0,1,4,6,10] [m 7 6,m 8 0,ln 9 8,bt 10 .lss 7 9]<|
cd [0,1,4,6] 10 no (.exit 0))<|
.seq (.block [0,1,4,6] 1<|
sr [0,1,4,6,19] [m 13 0,m 14 6,ia 15 6 13 14,fa 16 0 15,l1 17 16,m 18 1,bt 19 .eql 17 18]<|
cd [0,1,4,6] 19 (sr [4,5] [m 20 0,m 21 6,ia 22 6 20 21,la 23 6 22,st 6 4 23,mb 5 true]<|
.ret) no)<|
rg [0,1,4,6] [m 11 6,bc 12 .add 11 1,m 6 12]
def Zxd:Zg:=⟨2,25,[.cell 4 true 6,.tmp 5],false,sr [0,1,4] [al 4 [zs,zs,zi,zi,zi,zi],mb 5 false]<|
.seq (sr [0,1,4,6] [mi 6 0]<|
.block [4] 0<|
.loop [0,1,4,6] [] A3)<|
sr [4,5] [⟨some 24,none,.build [gs,gs,gi,gi,gi,gi] []⟩,st 6 4 24,mb 5 false]<|
.ret⟩
theorem Z77:cF Tryz.prog 141 Zxd=some Zxd:=by kernel_rfl
def Zxe:Zg:=⟨1,59,[.tmp 2],false,sr [1] [bx 1 0,mb 2 false]<|
.seq (sr [1,22] [fa 3 0 1,l1 4 3,k1 5 178 4,nt 6 5,m 7 6,fG 8 7 false 1 1,lG 9 7 false 8,⟨some 10,some (7,false),.lenS (.t 9)⟩,bcG 11 7 false .gtr 10 20,oR 12 7 11,m 13 12,fG 14 13 false 2 1,lG 15 13 false 14,bcG 16 13 false .lss 15 1,oR 17 13 16,m 18 17,fG 19 18 false 2 1,lG 20 18 false 19,bcG 21 18 false .gtr 20 1099511627775,oR 22 18 21]<|
cd [1] 22 (sr [2] [mb 2 false]<|
.ret) no)<|
sr [2] [fa 23 3 1,l1 24 23,fa 25 2 1,l1 26 25,bt 27 .geq 24 26,m 28 27,fG 29 28 true 3 1,lG 30 28 true 29,bcG 31 28 true .leq 30 1099511627775,aN 32 28 31,m 33 32,fG 34 33 true 4 1,lG 35 33 true 34,bcG 36 33 true .geq 35 1,aN 37 33 36,m 38 37,fG 39 38 true 4 1,lG 40 38 true 39,fG 41 38 true 3 1,lG 42 38 true 41,fG 43 38 true 2 1,lG 44 38 true 43,btG 45 38 true .sub 42 44,bcG 46 38 true .add 45 1,btG 47 38 true .leq 40 46,aN 48 38 47,m 49 48,fG 50 49 true 5 1,lG 51 49 true 50,bcG 52 49 true .geq 51 0,aN 53 49 52,m 54 53,fG 55 54 true 5 1,lG 56 54 true 55,bcG 57 54 true .leq 56 1099511627775,aN 58 54 57,m 2 58]<|
.ret⟩
theorem Z78:cF Tryz.prog 142 Zxe=some Zxe:=by kernel_rfl
def Zxf:Zg:=⟨2,9,[.tmp 4],false,sr [0,1] [mb 4 false]<|
sr [4] [m 5 0,m 6 1,k2 7 179 5 6,bc 8 .geq 7 0,m 4 8]<|
.ret⟩
theorem Z79:cF Tryz.prog 143 Zxf=some Zxf:=by kernel_rfl
def Zxg:Zg:=⟨1,9,[.tmp 2],false,sr [0] [mb 2 false]<|
sr [2] [m 3 0,bc 4 .lss 3 0,m 5 4,mG 6 5 false 0,bcG 7 5 false .gtr 6 1099511627775,oR 8 5 7,m 2 8]<|
.ret⟩
theorem Z8a:cF Tryz.prog 144 Zxg=some Zxg:=by kernel_rfl
def Zxh:Zg:=⟨2,9,[.tmp 4],false,sr [0,1] [mb 4 false]<|
sr [4] [m 5 0,m 6 1,k2 7 180 5 6,bc 8 .geq 7 0,m 4 8]<|
.ret⟩
theorem Z8b:cF Tryz.prog 145 Zxh=some Zxh:=by kernel_rfl
def Zxi:Zg:=⟨2,8,[.tmp 3],false,sr [1,2] [bx 2 0,mb 3 false]<|
sr [3] [l1 4 1,la 5 5 2,⟨some 6,none,.call (.t 4) [(.t 5)]⟩,nt 7 6,m 3 7]<|
.ret⟩
theorem Z8c:cF Tryz.prog 146 Zxi=some Zxi:=by kernel_rfl
def Zxj:Zg:=⟨2,9,[.tmp 4],false,sr [0,1] [mb 4 false]<|
sr [4] [m 5 0,m 6 1,k2 7 181 5 6,bc 8 .geq 7 0,m 4 8]<|
.ret⟩
theorem Z8d:cF Tryz.prog 147 Zxj=some Zxj:=by kernel_rfl
def Zxk:Zg:=⟨2,8,[.tmp 3],false,sr [1,2] [bx 2 0,mb 3 false]<|
sr [3] [l1 4 1,la 5 4 2,⟨some 6,none,.call (.t 4) [(.t 5)]⟩,nt 7 6,m 3 7]<|
.ret⟩
theorem Z8e:cF Tryz.prog 148 Zxk=some Zxk:=by kernel_rfl
def Zxl:Zg:=⟨1,4,[.tmp 2],true,sr [1] [bx 1 0,⟨some 2,none,.mov (.c (.g (.nfn)))⟩]<|
sr [2] [⟨some 3,none,.mkfn 183 [(.t 1)]⟩,m 2 3]<|
.ret⟩
theorem Z8f:Vz Tryz.prog 150 true (V9 Zxl.body)=some Zxl:=by kernel_rfl
def A4:IC :=
 sr [0,1,7,8,9] [bt 9 .lss 8 7]<|
.seq (cd [0,1,7,8] 9 no (.exit 0))<|
.seq (.block [0,1,7,8] 1<|
sr [0,1,5,7,8] [m 10 8,m 5 10]<|
sr [0,1,5,7,8,16] [m 11 1,m 12 0,m 13 5,ia 14 1 12 13,l1 15 14,bt 16 .eql 11 15]<|
cd [0,1,7,8] 16 (sr [4] [m 17 5,m 4 17]<|
.ret) no)<|
rg [0,1,7,8] [bc 18 .add 8 1,m 8 18]
def Zxm:Zg:=⟨2,19,[.tmp 4],false,sr [0,1] [mi 4 0]<|
.seq (sr [0,1,7,8] [m 6 0,ln 7 6,mi 8 0]<|
.block [] 0<|
.loop [0,1,7,8] [] A4)<|
sr [4] [mi 4 (-1)]<|
.ret⟩
theorem Z8g:cF Tryz.prog 151 Zxm=some Zxm:=by kernel_rfl
def A5:IC :=
 sr [1,5,8,9,10,11] [bt 11 .lss 10 9]<|
.seq (cd [1,5,8,9,10] 11 no (.exit 0))<|
.seq (.block [1,5,8,9,10] 1<|
sr [1,5,7,8,9,10] [ia 12 6 8 10,la 13 6 12,al 7 [zs,zs,zi,zi,zi,zi],st 6 7 13]<|
sr [1,5,7,8,9,10,17] [fa 14 0 7,l1 15 14,m 16 1,k2 17 184 15 16]<|
cd [1,5,8,9,10] 17 (rg [1,5,8,9,10] [m 18 5,la 19 6 7,⟨some 20,none,.bslice 6 1 [s0,s0,i0,i0,i0,i0] [(0,6,(.t 19))]⟩,ap 21 6 64 18 20,m 5 21]) no)<|
rg [1,5,8,9,10] [bc 22 .add 10 1,m 10 22]
def Zxn:Zg:=⟨2,24,[.tmp 4],false,sr [0,1] [nr 4 6]<|
sr [0,1,5] [nr 5 6]<|
.seq (sr [1,5,8,9,10] [m 8 0,ln 9 8,mi 10 0]<|
.block [5] 0<|
.loop [1,5,8,9,10] [] A5)<|
sr [4] [m 23 5,m 4 23]<|
.ret⟩
theorem Z8h:cF Tryz.prog 152 Zxn=some Zxn:=by kernel_rfl
def Z2r:IC :=
 sr [0,3,9,10,11,12] [bt 12 .lss 11 10]<|
.seq (cd [0,3,9,10,11] 12 no (.exit 0))<|
.seq (.block [0,3,9,10,11] 1<|
sr [0,3,5,9,10,11] [ia 13 1 9 11,l1 14 13,m 5 14]<|
sr [0,3,9,10,11] [m 15 3,m 16 5,ln 17 16,bt 18 .add 15 17,m 3 18]<|
sr [0,3,9,10,11,20] [m 19 3,bc 20 .lss 19 0]<|
cd [0,3,9,10,11] 20 (rg [0,3,9,10,11] [⟨some 21,none,.mkif 9 (.c (.g (.str [108,101,110,32,111,117,116,32,111,102,32,114,97,110,103,101])))⟩,⟨none,none,.row 0 []⟩]) no)<|
rg [0,3,9,10,11] [bc 22 .add 11 1,m 11 22]
def Z2s:IC :=
 sr [6,25,26,27,28] [bt 28 .lss 27 26]<|
.seq (cd [6,25,26,27] 28 no (.exit 2))<|
.seq (.block [6,25,26,27] 3<|
sr [6,8,25,26,27] [ia 29 1 25 27,l1 30 29,m 8 30]<|
rg [6,25,26,27] [m 31 6,m 32 8,ap 33 4 48 31 32,m 6 33])<|
rg [6,25,26,27] [bc 34 .add 27 1,m 27 34]
def Zxo:Zg:=⟨1,36,[.tmp 2],false,sr [0] [nr 2 4]<|
sr [0,3] [mi 3 0]<|
.seq (sr [0,3,9,10,11] [m 9 0,ln 10 9,mi 11 0]<|
.block [0,3] 0<|
.loop [0,3,9,10,11] [] Z2r)<|
sr [0,6] [m 23 3,⟨some 24,none,.call (.c (.g (.fn 185))) [(.c (.g (.nsl))),(.t 23)]⟩,m 6 24]<|
.seq (sr [6,25,26,27] [m 25 0,ln 26 25,mi 27 0]<|
.block [6] 2<|
.loop [6,25,26,27] [] Z2s)<|
sr [2] [m 35 6,m 2 35]<|
.ret⟩
theorem Z8i:cF Tryz.prog 153 Zxo=some Zxo:=by kernel_rfl
def Fz:IC :=
 sr [2,3,4,28,29,30,31] [bt 31 .lss 30 29]<|
.seq (cd [2,3,4,28,29,30] 31 no (.exit 0))<|
.seq (.block [2,3,4,28,29,30] 1<|
sr [2,3,4,9,28,29,30] [ia 32 5 28 30,la 33 5 32,al 9 [zs,zi,zi,zi,zs],st 5 9 33]<|
sr [2,3,4,28,29,30,36] [la 34 5 9,k1 35 186 34,nt 36 35]<|
cd [2,3,4,28,29,30] 36 (sr [4,5,6,7] [la 37 4 2,st 4 4 37,mb 5 false,nr 6 8,mi 7 1]<|
.ret) no)<|
rg [2,3,4,28,29,30] [bc 38 .add 30 1,m 30 38]
def Zxp:Zg:=⟨2,64,[.cell 4 true 4,.tmp 5,.tmp 6,.tmp 7],false,sr [2,3,4] [bx 2 0,bx 3 1,al 4 [zi,zi,.s 6,.s 8],mb 5 false,nr 6 8,mi 7 0]<|
.seq (sr [2,3,4,25] [fa 15 0 3,l1 16 15,ln 17 16,fa 18 1 3,l1 19 18,ln 20 19,fa 21 2 3,l1 22 21,ln 23 22,⟨some 24,none,.mx (.t 17) [(.t 20),(.t 23)]⟩,bc 25 .gtr 24 4]<|
cd [2,3,4] 25 (sr [4,5,6,7] [la 26 4 2,st 4 4 26,mb 5 false,nr 6 8,mi 7 1]<|
.ret) no)<|
.seq (sr [2,3,4,28,29,30] [fa 27 0 3,l1 28 27,ln 29 28,mi 30 0]<|
.block [2,3,4] 0<|
.loop [2,3,4,28,29,30] [] Fz)<|
.seq (.drw [2,3,4,10,11] 0<|tk (la 39 4 2)<|tk (fa 41 0 3)<|tk (l1 42 41)<|tk (fa 44 2 3)<|tk (l1 45 44)<|.one (k1 40 20 39)<|.one (k2 43 187 40 42)<|tk (m 10 43)<|.free<|tk (m 11 45)<|.leaf)<|
.seq (sr [2,3,4,10,11,46] [m 46 10]<|
cd [2,4,10,11] 46 (rg [2,4,10,11] [fa 47 1 3,l1 48 47,m 11 48]) no)<|
sr [4,10,12,13,14] [la 50 4 2,m 51 11,k2 52 66 50 51,m 49 52,ex 53 0 49,ex 54 1 49,ex 55 2 49,al 12 [zi,zi,.s 6,.s 8],st 4 12 53,m 13 54,m 14 55]<|
sr [4,5,6,7] [la 56 4 12,m 57 10,m 58 57,mG 59 58 true 14,bcG 60 58 true .eql 59 0,aN 61 58 60,m 62 13,m 63 14,st 4 4 56,m 5 61,m 6 62,m 7 63]<|
.ret⟩
theorem Z8j:cF Tryz.prog 154 Zxp=some Zxp:=by kernel_rfl
noncomputable def Sr:RD:=Z6s Tryz.prog 155 155
def Zxq:Zg:=⟨4,64,[.cell 8 false 1,.cell 9 false 1,.cell 10 false 1],false,sr [1,2,4,7,8,9,10] [bx 4 0,bx 7 3,al 8 [.s 8],al 9 [zi],al 10 [zi]]<|
.seq (.block [1,2,4,7,8,9,10] 0<|
sr [1,2,4,7,8,9,10,13] [l1 14 7,bc 15 .lss 14 1,m 16 15,lG 17 16 false 7,bcG 18 16 false .gtr 17 30,oR 19 16 18,m 13 19]<|
cd [1,2,4,7,8,9,10] 13 (sr [8,9,10] [⟨none,none,.store 1 (.t 8) (.c (.g (.nsl)))⟩,⟨none,none,.store 1 (.t 9) (.c (.g (.int .i64 0)))⟩,⟨none,none,.store 1 (.t 10) (.c (.g (.int .i64 1)))⟩]<|
.ret) (sr [1,2,4,7,8,9,10,20] [m 21 2,bc 22 .lss 21 1,m 23 22,mG 24 23 false 2,fG 25 23 false 0 4,lG 26 23 false 25,bcG 27 23 false .add 26 1,btG 28 23 false .gtr 24 27,oR 29 23 28,m 20 29]<|
cd [1,2,4,7,8,9,10] 20 (sr [8,9,10] [⟨none,none,.store 1 (.t 8) (.c (.g (.nsl)))⟩,⟨none,none,.store 1 (.t 9) (.c (.g (.int .i64 0)))⟩,⟨none,none,.store 1 (.t 10) (.c (.g (.int .i64 8)))⟩]<|
.ret) (sr [1,2,4,7,8,9,10,30] [m 31 2,fa 32 1 4,l1 33 32,bt 34 .leq 31 33,m 30 34]<|
cd [1,2,4,7,8,9,10] 30 (sr [8,9,10] [⟨none,none,.store 1 (.t 8) (.c (.g (.nsl)))⟩,⟨none,none,.store 1 (.t 9) (.c (.g (.int .i64 0)))⟩,⟨none,none,.store 1 (.t 10) (.c (.g (.int .i64 9)))⟩]<|
.ret) no)))<|
sr [1,2,4,7,8,9,10,11] [al 11 [.s 8]]<|
.seq (sr [4,7,8,9,10,11,40] [fa 35 3 4,l1 36 35,m 37 1,m 38 2,k3 39 189 36 37 38,k1 40 188 39]<|
.block [4,8,9,10,11] 1<|
.rfun [4,8,9,10,11] Sr [7,8,9,10,11] (.t 40))<|
.seq (.drw [8,9,10] 0<|tk (l1 60 11)<|tk (fa 61 0 4)<|tk (l1 62 61)<|tk (bc 63 .add 62 1)<|.one (st 1 8 60)<|.free<|.one (st 1 9 63)<|.one ⟨none,none,.store 1 (.t 10) (.c (.g (.int .i64 0)))⟩<|.leaf)<|
.ret⟩
theorem Z8k:cF Tryz.prog 155 Zxq=some Zxq:=by kernel_rfl
def A6:U7:=⟨Sr,[41],rg [7,8,9,10,11,12] [m 12 41],  .block [] 2<|
.seq (sr [8,9,10,11,12,48] [l1 42 11,ln 43 42,m 44 12,ln 45 44,bt 46 .add 43 45,l1 47 7,bt 48 .leq 46 47]<|
cd [8,9,10,11,12] 48 (sr [] [l1 49 11,m 50 12,ap 51 8 80 49 50,st 1 11 51]<|
.exit 2) no)<|
.seq (sr [8,9,10,11,12,54] [l1 52 11,ln 53 52,bc 54 .eql 53 0]<|
cd [8,9,10,11,12] 54 (sr [] [⟨none,none,.store 1 (.t 8) (.c (.g (.nsl)))⟩,⟨none,none,.store 1 (.t 9) (.c (.g (.int .i64 0)))⟩,⟨none,none,.store 1 (.t 10) (.c (.g (.int .i64 4)))⟩]<|
.ret) no)<|
.seq (.drw [] 0<|tk (l1 55 11)<|tk (m 56 12)<|tk ⟨some 57,none,.iaddr 8 (.t 56) (.c (.g (.int .i64 0)))⟩<|tk (fa 58 0 57)<|tk (l1 59 58)<|.one (st 1 8 55)<|.free<|.one (st 1 9 59)<|.one ⟨none,none,.store 1 (.t 10) (.c (.g (.int .i64 0)))⟩<|.leaf)<|
.ret⟩
def Z5r:List (List Nat):=[[7,8,9,10,11,12]]
def Z5s:List (List Nat):=[[],[8,9,10,11,12,48],[8,9,10,11,12],[],[8,9,10,11,12,54],[8,9,10,11,12],[],[],[]]
theorem Z5t:Gz Tryz.prog A6:=⟨by kernel_rfl,by kernel_rfl,⟨Z5r,by kernel_rfl⟩,⟨Z5s,by kernel_rfl⟩⟩
def Zxr:Zg:=⟨3,54,[.cell 6 true 2,.tmp 7,.tmp 8],false,sr [1,2,3,6] [bx 3 0,al 6 [zi,.s 3],mi 7 0,mi 8 0]<|
sr [1,3,6,9] [m 11 2,m 9 11]<|
.seq (sr [1,3,6,9,22] [m 12 1,bc 13 .lss 12 1,m 14 13,mG 15 14 false 1,bcG 16 14 false .gtr 15 1000,oR 17 14 16,m 18 17,mG 19 18 false 9,k1G 20 18 false 126 19,nG 21 18 false 20,oR 22 18 21]<|
cd [1,3,6,9] 22 (sr [6,7,8] [la 23 2 3,st 2 6 23,mi 7 0,mi 8 1]<|
.ret) no)<|
.seq (sr [1,3,6,9,32] [fa 24 1 3,l1 25 24,ln 26 25,bc 27 .geq 26 8,m 28 27,fG 29 28 false 0 3,lG 30 28 false 29,bcG 31 28 false .geq 30 1099511627775,oR 32 28 31]<|
cd [1,3,6,9] 32 (sr [6,7,8] [la 33 2 3,st 2 6 33,mi 7 0,mi 8 4]<|
.ret) no)<|
sr [1,3,6,9] [fa 34 0 3,l1 35 34,bc 36 .add 35 1,fa 37 0 3,st 1 37 36]<|
sr [3,6,9,10] [fa 38 0 3,l1 39 38,m 40 1,⟨some 41,none,.build [gi,gi,gi] [(0,1,(.t 39)),(1,1,(.t 40))]⟩,al 10 [zi,zi,zi],st 3 10 41]<|
sr [3,6,10] [m 42 9,k2 43 190 10 42]<|
sr [3,6] [fa 44 1 3,l1 45 44,la 46 3 10,⟨some 47,none,.bslice 3 1 [i0,i0,i0] [(0,3,(.t 46))]⟩,⟨some 48,none,.bslice 1 2 [.nsl] [(0,1,(.t 45)),(1,1,(.t 47))]⟩,k1 49 133 48,fa 50 1 3,st 1 50 49]<|
.seq (.drw [6,7,8] 0<|tk (la 51 2 3)<|tk (fa 52 0 3)<|tk (l1 53 52)<|.one (st 2 6 51)<|.free<|tk (m 7 53)<|tk (mi 8 0)<|.leaf)<|
.ret⟩
theorem Z8l:cF Tryz.prog 156 Zxr=some Zxr:=by kernel_rfl
def Zxs:Zg:=⟨3,42,[.cell 6 true 2,.tmp 7,.tmp 8],false,sr [1,2,3,6] [bx 3 0,al 6 [zi,.s 3],mi 7 0,mi 8 0]<|
sr [1,3,6,9] [m 12 2,m 9 12]<|
.seq (sr [1,3,6,9,15] [m 13 9,k1 14 126 13,nt 15 14]<|
cd [1,3,6,9] 15 (sr [6,7,8] [la 16 2 3,st 2 6 16,mi 7 0,mi 8 1]<|
.ret) no)<|
sr [3,6,9,10] [la 17 2 3,m 18 1,k2 19 132 17 18,m 10 19]<|
.seq (sr [3,6,9,10,21] [m 20 10,bc 21 .lss 20 0]<|
cd [3,6,9,10] 21 (sr [6,7,8] [la 22 2 3,st 2 6 22,mi 7 0,mi 8 6]<|
.ret) no)<|
sr [3,6,9,10,11] [fa 23 1 3,l1 24 23,m 25 10,ia 26 3 24 25,la 27 3 26,al 11 [zi,zi,zi],st 3 11 27]<|
sr [3,6,10,11] [m 28 9,k2 29 190 11 28]<|
sr [3,6,10,11] [fa 30 1 3,l1 31 30,k1 32 191 31,fa 33 1 3,st 1 33 32]<|
sr [3,6,11] [fa 34 1 3,l1 35 34,m 36 10,la 37 3 11,ia 38 3 35 36,st 3 38 37]<|
.seq (.drw [6,7,8] 0<|tk (la 39 2 3)<|tk (fa 40 1 11)<|tk (l1 41 40)<|.one (st 2 6 39)<|.free<|tk (m 7 41)<|tk (mi 8 0)<|.leaf)<|
.ret⟩
theorem Z8m:cF Tryz.prog 157 Zxs=some Zxs:=by kernel_rfl
def Zxt:Zg:=⟨2,27,[.tmp 4],true,sr [0,1] [nr 4 11]<|
.seq (sr [0,1,6] [m 5 1,bc 6 .lss 5 0]<|
cd [0,1] 6 (rg [0,1] [⟨some 7,none,.mkif 9 (.c (.g (.str [99,97,110,110,111,116,32,98,101,32,110,101,103,97,116,105,118,101])))⟩,⟨none,none,.row 0 []⟩]) no)<|
.seq (sr [0,1] [m 8 1,m 9 0,⟨some 10,none,.cap (.t 9)⟩,m 11 0,ln 12 11,bt 13 .sub 10 12,bt 14 .sub 8 13,m 1 14]<|
sr [0,1,16] [m 15 1,bc 16 .gtr 15 0]<|
cd [0] 16 (rg [0] [m 17 0,m 18 0,⟨some 19,none,.cap (.t 18)⟩,⟨some 20,none,.slc 11 (.t 17) none (some (.t 19))⟩,m 21 1,⟨some 22,none,.appZ 11 120 [i0,i0,i0,i0,i0,i0,i0,i0,b0,.nsl,.nsl] (.t 20) (.t 21)⟩,m 23 0,ln 24 23,⟨some 25,none,.slc 11 (.t 22) none (some (.t 24))⟩,m 0 25]) no)<|
sr [4] [m 26 0,m 4 26]<|
.ret⟩
theorem Z8n:Vz Tryz.prog 158 true (V9 Zxt.body)=some Zxt:=by kernel_rfl
def Z2t:IC :=
 sr [0,1,7,8,9] [bt 9 .lss 8 7]<|
.seq (cd [0,1,7,8] 9 no (.exit 0))<|
.seq (.block [0,1,7,8] 1<|
sr [0,1,5,7,8] [m 10 8,m 5 10]<|
sr [0,1,5,7,8,16] [m 11 1,m 12 0,m 13 5,ia 14 2 12 13,la 15 2 14,⟨some 16,none,.call (.t 11) [(.t 15)]⟩]<|
cd [0,1,7,8] 16 (sr [4] [m 17 5,m 4 17]<|
.ret) no)<|
rg [0,1,7,8] [bc 18 .add 8 1,m 8 18]
def Zxu:Zg:=⟨2,19,[.tmp 4],false,sr [0,1] [mi 4 0]<|
.seq (sr [0,1,7,8] [m 6 0,ln 7 6,mi 8 0]<|
.block [] 0<|
.loop [0,1,7,8] [] Z2t)<|
sr [4] [mi 4 (-1)]<|
.ret⟩
theorem Z8o:cF Tryz.prog 160 Zxu=some Zxu:=by kernel_rfl
def Zxv:Zg:=⟨2,8,[.tmp 3],false,sr [1,2] [bx 2 0,mb 3 false]<|
sr [3] [fa 4 0 2,l1 5 4,l1 6 1,bt 7 .eql 5 6,m 3 7]<|
.ret⟩
theorem Z8p:cF Tryz.prog 161 Zxv=some Zxv:=by kernel_rfl
def Z2u:IC :=
 sr [0,3,9,10,11,12] [bt 12 .lss 11 10]<|
.seq (cd [0,3,9,10,11] 12 no (.exit 0))<|
.seq (.block [0,3,9,10,11] 1<|
sr [0,3,5,9,10,11] [ia 13 1 9 11,l1 14 13,m 5 14]<|
sr [0,3,9,10,11] [m 15 3,m 16 5,ln 17 16,bt 18 .add 15 17,m 3 18]<|
sr [0,3,9,10,11,20] [m 19 3,bc 20 .lss 19 0]<|
cd [0,3,9,10,11] 20 (rg [0,3,9,10,11] [⟨some 21,none,.mkif 9 (.c (.g (.str [108,101,110,32,111,117,116,32,111,102,32,114,97,110,103,101])))⟩,⟨none,none,.row 0 []⟩]) no)<|
rg [0,3,9,10,11] [bc 22 .add 11 1,m 11 22]
def Z2v:IC :=
 sr [6,25,26,27,28] [bt 28 .lss 27 26]<|
.seq (cd [6,25,26,27] 28 no (.exit 2))<|
.seq (.block [6,25,26,27] 3<|
sr [6,8,25,26,27] [ia 29 1 25 27,l1 30 29,m 8 30]<|
rg [6,25,26,27] [m 31 6,m 32 8,ap 33 2 16 31 32,m 6 33])<|
rg [6,25,26,27] [bc 34 .add 27 1,m 27 34]
def Zxw:Zg:=⟨1,36,[.tmp 2],false,sr [0] [nr 2 2]<|
sr [0,3] [mi 3 0]<|
.seq (sr [0,3,9,10,11] [m 9 0,ln 10 9,mi 11 0]<|
.block [0,3] 0<|
.loop [0,3,9,10,11] [] Z2u)<|
sr [0,6] [m 23 3,⟨some 24,none,.call (.c (.g (.fn 194))) [(.c (.g (.nsl))),(.t 23)]⟩,m 6 24]<|
.seq (sr [6,25,26,27] [m 25 0,ln 26 25,mi 27 0]<|
.block [6] 2<|
.loop [6,25,26,27] [] Z2v)<|
sr [2] [m 35 6,m 2 35]<|
.ret⟩
theorem Z8q:cF Tryz.prog 162 Zxw=some Zxw:=by kernel_rfl
def Zxx:Zg:=⟨1,8,[.tmp 2],true,sr [0] [nr 2 2]<|
.seq (sr [0,4] [m 3 0,⟨some 4,none,.isnilS false (.t 3)⟩]<|
cd [0] 4 (sr [2] [nr 2 2]<|
.ret) no)<|
sr [2] [⟨some 5,none,.mk0 2⟩,m 6 0,ap 7 2 16 5 6,m 2 7]<|
.ret⟩
theorem Z8r:Vz Tryz.prog 163 true (V9 Zxx.body)=some Zxx:=by kernel_rfl
def Zxy:Zg:=⟨1,4,[.tmp 2],true,sr [1] [bx 1 0,⟨some 2,none,.mov (.c (.g (.nfn)))⟩]<|
sr [2] [⟨some 3,none,.mkfn 195 [(.t 1)]⟩,m 2 3]<|
.ret⟩
theorem Z8s:Vz Tryz.prog 164 true (V9 Zxy.body)=some Zxy:=by kernel_rfl
def Z2w:IC :=
 sr [0,3,9,10,11,12] [bt 12 .lss 11 10]<|
.seq (cd [0,3,9,10,11] 12 no (.exit 0))<|
.seq (.block [0,3,9,10,11] 1<|
sr [0,3,5,9,10,11] [ia 13 1 9 11,l1 14 13,m 5 14]<|
sr [0,3,9,10,11] [m 15 3,m 16 5,ln 17 16,bt 18 .add 15 17,m 3 18]<|
sr [0,3,9,10,11,20] [m 19 3,bc 20 .lss 19 0]<|
cd [0,3,9,10,11] 20 (rg [0,3,9,10,11] [⟨some 21,none,.mkif 9 (.c (.g (.str [108,101,110,32,111,117,116,32,111,102,32,114,97,110,103,101])))⟩,⟨none,none,.row 0 []⟩]) no)<|
rg [0,3,9,10,11] [bc 22 .add 11 1,m 11 22]
def Z2x:IC :=
 sr [6,25,26,27,28] [bt 28 .lss 27 26]<|
.seq (cd [6,25,26,27] 28 no (.exit 2))<|
.seq (.block [6,25,26,27] 3<|
sr [6,8,25,26,27] [ia 29 1 25 27,l1 30 29,m 8 30]<|
rg [6,25,26,27] [m 31 6,m 32 8,ap 33 6 64 31 32,m 6 33])<|
rg [6,25,26,27] [bc 34 .add 27 1,m 27 34]
def Zxz:Zg:=⟨1,36,[.tmp 2],false,sr [0] [nr 2 6]<|
sr [0,3] [mi 3 0]<|
.seq (sr [0,3,9,10,11] [m 9 0,ln 10 9,mi 11 0]<|
.block [0,3] 0<|
.loop [0,3,9,10,11] [] Z2w)<|
sr [0,6] [m 23 3,⟨some 24,none,.call (.c (.g (.fn 196))) [(.c (.g (.nsl))),(.t 23)]⟩,m 6 24]<|
.seq (sr [6,25,26,27] [m 25 0,ln 26 25,mi 27 0]<|
.block [6] 2<|
.loop [6,25,26,27] [] Z2x)<|
sr [2] [m 35 6,m 2 35]<|
.ret⟩
theorem Z8t:cF Tryz.prog 165 Zxz=some Zxz:=by kernel_rfl
def A7:IC :=
 .seq (sr [0,1,5,9] [m 6 5,m 7 1,ln 8 7,bt 9 .lss 6 8]<|
cd [0,1,5] 9 no (.exit 0))<|
.seq (.block [0,1,5] 1<|
sr [0,1,5,18] [m 12 0,m 13 1,m 14 5,ia 15 5 13 14,la 16 5 15,k2 17 197 12 16,nt 18 17]<|
cd [0,1,5] 18 (sr [4] [mb 4 false]<|
.ret) no)<|
rg [0,1,5] [m 10 5,bc 11 .add 10 1,m 5 11]
def Zx0:Zg:=⟨2,19,[.tmp 4],false,sr [0,1] [mb 4 false]<|
.seq (sr [0,1,5] [mi 5 0]<|
.block [] 0<|
.loop [0,1,5] [] A7)<|
sr [4] [mb 4 true]<|
.ret⟩
theorem Z8u:cF Tryz.prog 166 Zx0=some Zx0:=by kernel_rfl
def Zx1:Zg:=⟨2,18,[.tmp 4],false,sr [0,1] [mb 4 false]<|
sr [4] [m 5 0,⟨some 6,none,.lenS (.t 5)⟩,m 7 1,⟨some 8,none,.lenS (.t 7)⟩,bt 9 .geq 6 8,m 10 9,mG 11 10 true 0,mG 12 10 true 1,⟨some 13,some (10,true),.lenS (.t 12)⟩,⟨some 14,some (10,true),.slcS (.t 11) none (some (.t 13))⟩,mG 15 10 true 1,btG 16 10 true .eql 14 15,aN 17 10 16,m 4 17]<|
.ret⟩
theorem Z8v:cF Tryz.prog 167 Zx1=some Zx1:=by kernel_rfl
def Zx2:Zg:=⟨1,45,[.tmp 2],false,sr [1] [bx 1 0,mb 2 false]<|
sr [2] [fa 3 0 1,l1 4 3,k1 5 176 4,m 6 5,fG 7 6 true 1 1,lG 8 6 true 7,⟨some 9,some (6,true),.lenS (.t 8)⟩,bcG 10 6 true .leq 9 20,aN 11 6 10,m 12 11,fG 13 12 true 2 1,lG 14 12 true 13,⟨some 15,some (12,true),.call (.c (.g (.fn 198))) [(.t 14),(.c (.g (.int .i64 1)))]⟩,aN 16 12 15,m 17 16,fG 18 17 true 3 1,lG 19 17 true 18,fG 20 17 true 2 1,lG 21 17 true 20,k2G 22 17 true 198 19 21,aN 23 17 22,m 24 23,fG 25 24 true 4 1,lG 26 24 true 25,bcG 27 24 true .geq 26 1,aN 28 24 27,m 29 28,fG 30 29 true 4 1,lG 31 29 true 30,fG 32 29 true 3 1,lG 33 29 true 32,fG 34 29 true 2 1,lG 35 29 true 34,btG 36 29 true .sub 33 35,bcG 37 29 true .add 36 1,btG 38 29 true .leq 31 37,aN 39 29 38,m 40 39,fG 41 40 true 5 1,lG 42 40 true 41,⟨some 43,some (40,true),.call (.c (.g (.fn 198))) [(.t 42),(.c (.g (.int .i64 0)))]⟩,aN 44 40 43,m 2 44]<|
.ret⟩
theorem Z8w:cF Tryz.prog 168 Zx2=some Zx2:=by kernel_rfl
def Zx3:Zg:=⟨2,18,[.cell 4 true 6,.tmp 5],false,sr [0,1,4] [al 4 [zs,zs,zi,zi,zi,zi],mb 5 false]<|
sr [0,4,6] [m 7 0,m 8 1,k1 9 164 8,k2 10 131 7 9,m 6 10]<|
.seq (sr [0,4,6,12] [m 11 6,bc 12 .lss 11 0]<|
cd [0,4,6] 12 (sr [4,5] [⟨some 13,none,.build [gs,gs,gi,gi,gi,gi] []⟩,st 6 4 13,mb 5 false]<|
.ret) no)<|
sr [4,5] [m 14 0,m 15 6,ia 16 6 14 15,la 17 6 16,st 6 4 17,mb 5 true]<|
.ret⟩
theorem Z8x:cF Tryz.prog 169 Zx3=some Zx3:=by kernel_rfl
def Zx4:Zg:=⟨3,35,[.cell 6 true 6],false,sr [0,2,4,6] [bx 4 1,al 6 [zs,zs,zi,zi,zi,zi]]<|
sr [0,4,6,7] [fa 10 1 4,l1 11 10,fa 12 2 4,l1 13 12,m 14 2,m 15 2,fa 16 3 4,l1 17 16,⟨some 18,none,.build [gs,gs,gi,gi,gi,gi] [(0,1,(.t 11)),(1,1,(.t 13)),(2,1,(.t 14)),(3,1,(.t 15)),(4,1,(.c (.g (.int .i64 1)))),(5,1,(.t 17))]⟩,al 7 [zs,zs,zi,zi,zi,zi],st 6 7 18]<|
.seq (sr [6,7,8,9] [m 20 0,fa 21 1 4,l1 22 21,k2 23 169 20 22,m 19 23,ex 24 0 19,ex 25 1 19,al 8 [zs,zs,zi,zi,zi,zi],st 6 8 24,m 9 25]<|
sr [6,7,8,26] [m 26 9]<|
cd [6,7] 26 (.drw [6,7] 0<|tk (fa 27 2 8)<|tk (l1 28 27)<|tk (fa 29 4 8)<|tk (l1 30 29)<|tk (bc 31 .add 30 1)<|tk (fa 32 2 7)<|.one (st 1 32 28)<|.free<|tk (fa 33 4 7)<|.one (st 1 33 31)<|.leaf) no)<|
sr [6] [la 34 6 7,st 6 6 34]<|
.ret⟩
theorem Z8y:cF Tryz.prog 170 Zx4=some Zx4:=by kernel_rfl
def Zx5:Zg:=⟨2,8,[.tmp 3],false,sr [1,2] [bx 2 0,mb 3 false]<|
sr [3] [l1 4 1,la 5 6 2,⟨some 6,none,.call (.t 4) [(.t 5)]⟩,nt 7 6,m 3 7]<|
.ret⟩
theorem Z8z:cF Tryz.prog 171 Zx5=some Zx5:=by kernel_rfl
def Zx6:Zg:=⟨2,9,[.tmp 4],false,sr [0,1] [mb 4 false]<|
sr [4] [m 5 0,m 6 1,k2 7 175 5 6,bc 8 .geq 7 0,m 4 8]<|
.ret⟩
theorem Z80:cF Tryz.prog 172 Zx6=some Zx6:=by kernel_rfl
def Zx7:Zg:=⟨2,8,[.tmp 3],false,sr [1,2] [bx 2 0,mb 3 false]<|
sr [3] [l1 4 1,la 5 8 2,⟨some 6,none,.call (.t 4) [(.t 5)]⟩,nt 7 6,m 3 7]<|
.ret⟩
theorem Z81:cF Tryz.prog 173 Zx7=some Zx7:=by kernel_rfl
def Zx8:Zg:=⟨2,27,[.tmp 4],true,sr [0,1] [nr 4 3]<|
.seq (sr [0,1,6] [m 5 1,bc 6 .lss 5 0]<|
cd [0,1] 6 (rg [0,1] [⟨some 7,none,.mkif 9 (.c (.g (.str [99,97,110,110,111,116,32,98,101,32,110,101,103,97,116,105,118,101])))⟩,⟨none,none,.row 0 []⟩]) no)<|
.seq (sr [0,1] [m 8 1,m 9 0,⟨some 10,none,.cap (.t 9)⟩,m 11 0,ln 12 11,bt 13 .sub 10 12,bt 14 .sub 8 13,m 1 14]<|
sr [0,1,16] [m 15 1,bc 16 .gtr 15 0]<|
cd [0] 16 (rg [0] [m 17 0,m 18 0,⟨some 19,none,.cap (.t 18)⟩,⟨some 20,none,.slc 3 (.t 17) none (some (.t 19))⟩,m 21 1,⟨some 22,none,.appZ 3 24 [i0,i0,i0] (.t 20) (.t 21)⟩,m 23 0,ln 24 23,⟨some 25,none,.slc 3 (.t 22) none (some (.t 24))⟩,m 0 25]) no)<|
sr [4] [m 26 0,m 4 26]<|
.ret⟩
theorem Z82:Vz Tryz.prog 174 true (V9 Zx8.body)=some Zx8:=by kernel_rfl
def A8:IC :=
 sr [0,1,7,8,9] [bt 9 .lss 8 7]<|
.seq (cd [0,1,7,8] 9 no (.exit 0))<|
.seq (.block [0,1,7,8] 1<|
sr [0,1,5,7,8] [m 10 8,m 5 10]<|
sr [0,1,5,7,8,16] [m 11 1,m 12 0,m 13 5,ia 14 8 12 13,la 15 8 14,⟨some 16,none,.call (.t 11) [(.t 15)]⟩]<|
cd [0,1,7,8] 16 (sr [4] [m 17 5,m 4 17]<|
.ret) no)<|
rg [0,1,7,8] [bc 18 .add 8 1,m 8 18]
def Zx9:Zg:=⟨2,19,[.tmp 4],false,sr [0,1] [mi 4 0]<|
.seq (sr [0,1,7,8] [m 6 0,ln 7 6,mi 8 0]<|
.block [] 0<|
.loop [0,1,7,8] [] A8)<|
sr [4] [mi 4 (-1)]<|
.ret⟩
theorem Z83:cF Tryz.prog 175 Zx9=some Zx9:=by kernel_rfl
def Zya:Zg:=⟨1,5,[.tmp 2],false,sr [0] [mb 2 false]<|
sr [2] [m 3 0,⟨some 4,none,.call (.c (.g (.fn 199))) [(.t 3),(.c (.g (.int .i64 40))),(.c (.g (.fn 200)))]⟩,m 2 4]<|
.ret⟩
theorem Z84:cF Tryz.prog 176 Zya=some Zya:=by kernel_rfl
def Zyb:Zg:=⟨2,27,[.tmp 4],true,sr [0,1] [nr 4 8]<|
.seq (sr [0,1,6] [m 5 1,bc 6 .lss 5 0]<|
cd [0,1] 6 (rg [0,1] [⟨some 7,none,.mkif 9 (.c (.g (.str [99,97,110,110,111,116,32,98,101,32,110,101,103,97,116,105,118,101])))⟩,⟨none,none,.row 0 []⟩]) no)<|
.seq (sr [0,1] [m 8 1,m 9 0,⟨some 10,none,.cap (.t 9)⟩,m 11 0,ln 12 11,bt 13 .sub 10 12,bt 14 .sub 8 13,m 1 14]<|
sr [0,1,16] [m 15 1,bc 16 .gtr 15 0]<|
cd [0] 16 (rg [0] [m 17 0,m 18 0,⟨some 19,none,.cap (.t 18)⟩,⟨some 20,none,.slc 8 (.t 17) none (some (.t 19))⟩,m 21 1,⟨some 22,none,.appZ 8 80 [i0,b0,s0,s0,i0,i0,i0,i0] (.t 20) (.t 21)⟩,m 23 0,ln 24 23,⟨some 25,none,.slc 8 (.t 22) none (some (.t 24))⟩,m 0 25]) no)<|
sr [4] [m 26 0,m 4 26]<|
.ret⟩
theorem Z85:Vz Tryz.prog 177 true (V9 Zyb.body)=some Zyb:=by kernel_rfl
def A9:IC :=
 .seq (sr [0,3,15] [m 12 3,m 13 0,⟨some 14,none,.lenS (.t 13)⟩,bt 15 .lss 12 14]<|
cd [0,3] 15 no (.exit 0))<|
.seq (.block [0,3] 1<|
sr [0,3,27] [m 18 0,m 19 3,⟨some 20,none,.index (.t 18) (.t 19)⟩,⟨some 21,none,.bin .lss (.t 20) (.c (.g (.int .u8 33)))⟩,m 22 21,mG 23 22 false 0,mG 24 22 false 3,⟨some 25,some (22,false),.index (.t 23) (.t 24)⟩,⟨some 26,some (22,false),.bin .gtr (.t 25) (.c (.g (.int .u8 126)))⟩,oR 27 22 26]<|
cd [0,3] 27 (sr [2] [mb 2 false]<|
.ret) no)<|
rg [0,3] [m 16 3,bc 17 .add 16 1,m 3 17]
def Zyc:Zg:=⟨1,28,[.tmp 2],false,sr [0] [mb 2 false]<|
.seq (sr [0,11] [m 4 0,⟨some 5,none,.lenS (.t 4)⟩,bc 6 .lss 5 1,m 7 6,mG 8 7 false 0,⟨some 9,some (7,false),.lenS (.t 8)⟩,bcG 10 7 false .gtr 9 40,oR 11 7 10]<|
cd [0] 11 (sr [2] [mb 2 false]<|
.ret) no)<|
.seq (sr [0,3] [mi 3 0]<|
.block [] 0<|
.loop [0,3] [] A9)<|
sr [2] [mb 2 true]<|
.ret⟩
theorem Z86:cF Tryz.prog 178 Zyc=some Zyc:=by kernel_rfl
def Z2y:IC :=
 sr [0,1,7,8,9] [bt 9 .lss 8 7]<|
.seq (cd [0,1,7,8] 9 no (.exit 0))<|
.seq (.block [0,1,7,8] 1<|
sr [0,1,5,7,8] [m 10 8,m 5 10]<|
sr [0,1,5,7,8,16] [m 11 1,m 12 0,m 13 5,ia 14 1 12 13,l1 15 14,⟨some 16,none,.call (.t 11) [(.t 15)]⟩]<|
cd [0,1,7,8] 16 (sr [4] [m 17 5,m 4 17]<|
.ret) no)<|
rg [0,1,7,8] [bc 18 .add 8 1,m 8 18]
def Zyd:Zg:=⟨2,19,[.tmp 4],false,sr [0,1] [mi 4 0]<|
.seq (sr [0,1,7,8] [m 6 0,ln 7 6,mi 8 0]<|
.block [] 0<|
.loop [0,1,7,8] [] Z2y)<|
sr [4] [mi 4 (-1)]<|
.ret⟩
theorem Z87:cF Tryz.prog 179 Zyd=some Zyd:=by kernel_rfl
def Z2z:IC :=
 sr [0,1,7,8,9] [bt 9 .lss 8 7]<|
.seq (cd [0,1,7,8] 9 no (.exit 0))<|
.seq (.block [0,1,7,8] 1<|
sr [0,1,5,7,8] [m 10 8,m 5 10]<|
sr [0,1,5,7,8,16] [m 11 1,m 12 0,m 13 5,ia 14 5 12 13,la 15 5 14,⟨some 16,none,.call (.t 11) [(.t 15)]⟩]<|
cd [0,1,7,8] 16 (sr [4] [m 17 5,m 4 17]<|
.ret) no)<|
rg [0,1,7,8] [bc 18 .add 8 1,m 8 18]
def Zye:Zg:=⟨2,19,[.tmp 4],false,sr [0,1] [mi 4 0]<|
.seq (sr [0,1,7,8] [m 6 0,ln 7 6,mi 8 0]<|
.block [] 0<|
.loop [0,1,7,8] [] Z2z)<|
sr [4] [mi 4 (-1)]<|
.ret⟩
theorem Z88:cF Tryz.prog 180 Zye=some Zye:=by kernel_rfl
def Z20:IC :=
 sr [0,1,7,8,9] [bt 9 .lss 8 7]<|
.seq (cd [0,1,7,8] 9 no (.exit 0))<|
.seq (.block [0,1,7,8] 1<|
sr [0,1,5,7,8] [m 10 8,m 5 10]<|
sr [0,1,5,7,8,16] [m 11 1,m 12 0,m 13 5,ia 14 4 12 13,la 15 4 14,⟨some 16,none,.call (.t 11) [(.t 15)]⟩]<|
cd [0,1,7,8] 16 (sr [4] [m 17 5,m 4 17]<|
.ret) no)<|
rg [0,1,7,8] [bc 18 .add 8 1,m 8 18]
def Zyf:Zg:=⟨2,19,[.tmp 4],false,sr [0,1] [mi 4 0]<|
.seq (sr [0,1,7,8] [m 6 0,ln 7 6,mi 8 0]<|
.block [] 0<|
.loop [0,1,7,8] [] Z20)<|
sr [4] [mi 4 (-1)]<|
.ret⟩
theorem Z89:cF Tryz.prog 181 Zyf=some Zyf:=by kernel_rfl
def Zyg:Zg:=⟨2,8,[.tmp 4],false,sr [0,1] [mb 4 false]<|
sr [4] [m 5 0,m 6 1,k2 7 202 5 6,m 4 7]<|
.ret⟩
theorem Z9a:cF Tryz.prog 184 Zyg=some Zyg:=by kernel_rfl
def Zyh:Zg:=⟨2,27,[.tmp 4],true,sr [0,1] [nr 4 4]<|
.seq (sr [0,1,6] [m 5 1,bc 6 .lss 5 0]<|
cd [0,1] 6 (rg [0,1] [⟨some 7,none,.mkif 9 (.c (.g (.str [99,97,110,110,111,116,32,98,101,32,110,101,103,97,116,105,118,101])))⟩,⟨none,none,.row 0 []⟩]) no)<|
.seq (sr [0,1] [m 8 1,m 9 0,⟨some 10,none,.cap (.t 9)⟩,m 11 0,ln 12 11,bt 13 .sub 10 12,bt 14 .sub 8 13,m 1 14]<|
sr [0,1,16] [m 15 1,bc 16 .gtr 15 0]<|
cd [0] 16 (rg [0] [m 17 0,m 18 0,⟨some 19,none,.cap (.t 18)⟩,⟨some 20,none,.slc 4 (.t 17) none (some (.t 19))⟩,m 21 1,⟨some 22,none,.appZ 4 48 [b0,s0,s0,i0] (.t 20) (.t 21)⟩,m 23 0,ln 24 23,⟨some 25,none,.slc 4 (.t 22) none (some (.t 24))⟩,m 0 25]) no)<|
sr [4] [m 26 0,m 4 26]<|
.ret⟩
theorem Z9b:Vz Tryz.prog 185 true (V9 Zyh.body)=some Zyh:=by kernel_rfl
def Zyi:Zg:=⟨1,21,[.tmp 2],false,sr [1] [bx 1 0,mb 2 false]<|
sr [2] [fa 3 1 1,l1 4 3,bc 5 .geq 4 1,m 6 5,fG 7 6 true 1 1,lG 8 6 true 7,bcG 9 6 true .leq 8 4,aN 10 6 9,m 11 10,fG 12 11 true 2 1,lG 13 11 true 12,bcG 14 11 true .geq 13 1,aN 15 11 14,m 16 15,fG 17 16 true 2 1,lG 18 16 true 17,bcG 19 16 true .leq 18 3,aN 20 16 19,m 2 20]<|
.ret⟩
theorem Z9c:cF Tryz.prog 186 Zyi=some Zyi:=by kernel_rfl
def Zaa:IC :=
 sr [0,7,8,9,10] [bt 10 .lss 9 8]<|
.seq (cd [0,7,8,9] 10 no (.exit 0))<|
.seq (.block [0,7,8,9] 1<|
sr [0,6,7,8,9] [ia 11 5 7 9,la 12 5 11,al 6 [zs,zi,zi,zi,zs],st 5 6 12]<|
sr [0,7,8,9,16] [m 13 0,la 14 5 6,k2 15 203 13 14,nt 16 15]<|
cd [0,7,8,9] 16 (sr [4] [mb 4 false]<|
.ret) no)<|
rg [0,7,8,9] [bc 17 .add 9 1,m 9 17]
def Zyj:Zg:=⟨2,18,[.tmp 4],false,sr [0,1] [mb 4 false]<|
.seq (sr [0,7,8,9] [m 7 1,ln 8 7,mi 9 0]<|
.block [] 0<|
.loop [0,7,8,9] [] Zaa)<|
sr [4] [mb 4 true]<|
.ret⟩
theorem Z9d:cF Tryz.prog 187 Zyj=some Zyj:=by kernel_rfl
def Zyk:Zg:=⟨1,4,[.tmp 2],true,sr [1] [bx 1 0,⟨some 2,none,.mov (.c (.g (.nfn)))⟩]<|
sr [2] [⟨some 3,none,.mkfn 204 [(.t 1)]⟩,m 2 3]<|
.ret⟩
theorem Z9e:Vz Tryz.prog 188 true (V9 Zyk.body)=some Zyk:=by kernel_rfl
end
end Go.Proofs.YtndfdnlbljhlgaaGreat
