/- The compiled functions of the seat, part IRg4. No conditions. -/
import Derived.Test.YtndfdnlbljhlgaaGreatAMJ3
import Derived.Test.YtndfdnlbljhlgaaGreatProg
import Derived.KernelRfl
namespace Go.Proofs.YtndfdnlbljhlgaaGreat
open Go Go.AM Go.Proofs Go.IR
noncomputable section
def Zab:IC :=
 sr [1,2,7,10,11,12,13] [bt 13 .lss 12 11]<|
.seq (cd [1,2,7,10,11,12] 13 no (.exit 0))<|
.seq (.block [1,2,7,10,11,12] 1<|
sr [1,2,7,9,10,11,12] [ia 14 8 10 12,la 15 8 14,al 9 [zi,zb,zs,zs,zi,zi,zi,zi],st 8 9 15]<|
sr [1,2,7,9,10,11,12,26] [fa 16 0 9,l1 17 16,m 18 2,bt 19 .geq 17 18,m 20 19,fG 21 20 true 2 9,fG 22 20 true 0 21,lG 23 20 true 22,mG 24 20 true 1,k2G 25 20 true 184 23 24,aN 26 20 25]<|
cd [1,2,7,10,11,12] 26 (rg [1,2,7,10,11,12] [m 27 7,la 28 8 9,⟨some 29,none,.bslice 8 1 [i0,b0,s0,s0,i0,i0,i0,i0] [(0,8,(.t 28))]⟩,ap 30 8 80 27 29,m 7 30]) no)<|
rg [1,2,7,10,11,12] [bc 31 .add 12 1,m 12 31]
def Zyl:Zg:=⟨3,33,[.tmp 6],false,sr [0,1,2] [nr 6 8]<|
sr [0,1,2,7] [nr 7 8]<|
.seq (sr [1,2,7,10,11,12] [m 10 0,ln 11 10,mi 12 0]<|
.block [7] 0<|
.loop [1,2,7,10,11,12] [] Zab)<|
sr [6] [m 32 7,m 6 32]<|
.ret⟩
theorem Z9f:cF Tryz.prog 189 Zyl=some Zyl:=by kernel_rfl
def Zym:Zg:=⟨2,18,[],false,.drw [] 0<|tk (m 4 0)<|tk (m 5 0)<|tk (nc 6 5)<|tk (fa 7 2 6)<|tk (l1 8 7)<|tk (m 9 1)<|tk (m 10 0)<|tk (nc 11 10)<|tk (fa 12 1 11)<|tk (l1 13 12)<|tk (bt 14 .add 9 13)<|tk ⟨some 15,none,.mx (.t 8) [(.t 14)]⟩<|.free<|tk (nc 16 4)<|tk (fa 17 2 16)<|.one (st 1 17 15)<|.leaf⟩
theorem Z9g:cF Tryz.prog 190 Zym=some Zym:=by kernel_rfl
def Zyn:Zg:=⟨1,8,[.tmp 2],true,sr [0] [nr 2 3]<|
.seq (sr [0,4] [m 3 0,⟨some 4,none,.isnilS false (.t 3)⟩]<|
cd [0] 4 (sr [2] [nr 2 3]<|
.ret) no)<|
sr [2] [⟨some 5,none,.mk0 3⟩,m 6 0,ap 7 3 24 5 6,m 2 7]<|
.ret⟩
theorem Z9h:Vz Tryz.prog 191 true (V9 Zyn.body)=some Zyn:=by kernel_rfl
def Zyo:Zg:=⟨2,27,[.tmp 4],true,sr [0,1] [nr 4 2]<|
.seq (sr [0,1,6] [m 5 1,bc 6 .lss 5 0]<|
cd [0,1] 6 (rg [0,1] [⟨some 7,none,.mkif 9 (.c (.g (.str [99,97,110,110,111,116,32,98,101,32,110,101,103,97,116,105,118,101])))⟩,⟨none,none,.row 0 []⟩]) no)<|
.seq (sr [0,1] [m 8 1,m 9 0,⟨some 10,none,.cap (.t 9)⟩,m 11 0,ln 12 11,bt 13 .sub 10 12,bt 14 .sub 8 13,m 1 14]<|
sr [0,1,16] [m 15 1,bc 16 .gtr 15 0]<|
cd [0] 16 (rg [0] [m 17 0,m 18 0,⟨some 19,none,.cap (.t 18)⟩,⟨some 20,none,.slc 2 (.t 17) none (some (.t 19))⟩,m 21 1,⟨some 22,none,.appZ 2 16 [i0,i0] (.t 20) (.t 21)⟩,m 23 0,ln 24 23,⟨some 25,none,.slc 2 (.t 22) none (some (.t 24))⟩,m 0 25]) no)<|
sr [4] [m 26 0,m 4 26]<|
.ret⟩
theorem Z9i:Vz Tryz.prog 194 true (V9 Zyo.body)=some Zyo:=by kernel_rfl
def Zyp:Zg:=⟨2,8,[.tmp 3],false,sr [1,2] [bx 2 0,mb 3 false]<|
sr [3] [fa 4 0 2,l1 5 4,l1 6 1,bt 7 .eql 5 6,m 3 7]<|
.ret⟩
theorem Z9j:cF Tryz.prog 195 Zyp=some Zyp:=by kernel_rfl
def Zyq:Zg:=⟨2,27,[.tmp 4],true,sr [0,1] [nr 4 6]<|
.seq (sr [0,1,6] [m 5 1,bc 6 .lss 5 0]<|
cd [0,1] 6 (rg [0,1] [⟨some 7,none,.mkif 9 (.c (.g (.str [99,97,110,110,111,116,32,98,101,32,110,101,103,97,116,105,118,101])))⟩,⟨none,none,.row 0 []⟩]) no)<|
.seq (sr [0,1] [m 8 1,m 9 0,⟨some 10,none,.cap (.t 9)⟩,m 11 0,ln 12 11,bt 13 .sub 10 12,bt 14 .sub 8 13,m 1 14]<|
sr [0,1,16] [m 15 1,bc 16 .gtr 15 0]<|
cd [0] 16 (rg [0] [m 17 0,m 18 0,⟨some 19,none,.cap (.t 18)⟩,⟨some 20,none,.slc 6 (.t 17) none (some (.t 19))⟩,m 21 1,⟨some 22,none,.appZ 6 64 [s0,s0,i0,i0,i0,i0] (.t 20) (.t 21)⟩,m 23 0,ln 24 23,⟨some 25,none,.slc 6 (.t 22) none (some (.t 24))⟩,m 0 25]) no)<|
sr [4] [m 26 0,m 4 26]<|
.ret⟩
theorem Z9k:Vz Tryz.prog 196 true (V9 Zyq.body)=some Zyq:=by kernel_rfl
def Zyr:Zg:=⟨2,79,[.tmp 4],false,sr [0,3] [bx 3 1,mb 4 false]<|
sr [3,5] [m 8 0,fa 9 0 3,l1 10 9,k2 11 141 8 10,m 7 11,ex 12 0 7,ex 13 1 7,al 5 [zs,zs,zi,zi,zi,zi],st 6 5 12,m 6 13]<|
.seq (sr [3,5,15] [fa 14 1 3,l1 15 14]<|
.block [] 0<|
sr [3,5,15,16] [bc 17 .eql 15 1,m 16 17]<|
cd [] 16 (sr [4] [fa 18 2 5,l1 19 18,fa 20 2 3,l1 21 20,fa 22 3 3,l1 23 22,k3 24 217 19 21 23,m 4 24]<|
.ret) (sr [3,5,15,25] [bc 26 .eql 15 2,m 25 26]<|
cd [] 25 (sr [4] [fa 27 3 5,l1 28 27,fa 29 2 3,l1 30 29,fa 31 3 3,l1 32 31,k3 33 217 28 30 32,m 4 33]<|
.ret) (sr [3,5,15,34] [bc 35 .eql 15 3,m 34 35]<|
cd [] 34 (sr [4] [fa 36 4 5,l1 37 36,fa 38 2 3,l1 39 38,fa 40 3 3,l1 41 40,k3 42 217 37 39 41,m 4 42]<|
.ret) (sr [3,5,43] [bc 44 .eql 15 4,m 43 44]<|
cd [] 43 (sr [4] [fa 45 2 3,l1 46 45,bc 47 .eql 46 1,m 48 47,fG 49 48 true 1 5,lG 50 48 true 49,fG 51 48 true 4 3,lG 52 48 true 51,btG 53 48 true .eql 50 52,aN 54 48 53,m 55 54,fG 56 55 false 2 3,lG 57 55 false 56,bcG 58 55 false .eql 57 2,mG 59 55 false 58,fG 60 59 true 1 5,lG 61 59 true 60,fG 62 59 true 4 3,lG 63 59 true 62,btG 64 59 true .lss 61 63,⟨some 65,some (55,false),.pick (.t 59) (.t 64) (.c (.g (.bool false)))⟩,oR 66 55 65,m 67 66,fG 68 67 false 2 3,lG 69 67 false 68,bcG 70 67 false .eql 69 3,mG 71 67 false 70,fG 72 71 true 1 5,lG 73 71 true 72,fG 74 71 true 4 3,lG 75 71 true 74,btG 76 71 true .gtr 73 75,⟨some 77,some (67,false),.pick (.t 71) (.t 76) (.c (.g (.bool false)))⟩,oR 78 67 77,m 4 78]<|
.ret) no))))<|
sr [4] [mb 4 false]<|
.ret⟩
theorem Z9l:cF Tryz.prog 197 Zyr=some Zyr:=by kernel_rfl
def Zys:Zg:=⟨2,12,[.tmp 4],false,sr [0,1] [mb 4 false]<|
sr [4] [m 5 0,m 6 1,bt 7 .geq 5 6,m 8 7,mG 9 8 true 0,bcG 10 8 true .leq 9 1099511627775,aN 11 8 10,m 4 11]<|
.ret⟩
theorem Z9m:cF Tryz.prog 198 Zys=some Zys:=by kernel_rfl
def Zac:IC :=
 sr [2,18,19,20,21] [bt 21 .lss 20 19]<|
.seq (cd [2,18,19,20] 21 no (.exit 0))<|
.seq (.block [2,18,19,20] 1<|
sr [2,8,18,19,20] [ia 22 1 18 20,l1 23 22,m 8 23]<|
sr [2,18,19,20,27] [m 24 2,m 25 8,⟨some 26,none,.call (.t 24) [(.t 25)]⟩,nt 27 26]<|
cd [2,18,19,20] 27 (sr [6] [mb 6 false]<|
.ret) no)<|
rg [2,18,19,20] [bc 28 .add 20 1,m 20 28]
def Zyt:Zg:=⟨3,29,[.tmp 6],false,sr [0,1,2] [mb 6 false]<|
.seq (sr [0,2,16] [m 9 0,⟨some 10,none,.bin .eql (.t 9) (.c (.g (.str [])))⟩,m 11 10,mG 12 11 false 0,⟨some 13,some (11,false),.lenS (.t 12)⟩,mG 14 11 false 1,btG 15 11 false .gtr 13 14,oR 16 11 15]<|
cd [0,2] 16 (sr [6] [mb 6 false]<|
.ret) no)<|
.seq (sr [2,18,19,20] [m 17 0,⟨some 18,none,.convSB (.t 17)⟩,ln 19 18,mi 20 0]<|
.block [] 0<|
.loop [2,18,19,20] [] Zac)<|
sr [6] [mb 6 true]<|
.ret⟩
theorem Z9n:cF Tryz.prog 199 Zyt=some Zyt:=by kernel_rfl
def Zyu:Zg:=⟨1,9,[.tmp 2],false,sr [0] [mb 2 false]<|
sr [2] [m 3 0,⟨some 4,none,.bin .gtr (.t 3) (.c (.g (.int .u8 32)))⟩,m 5 4,mG 6 5 true 0,⟨some 7,some (5,true),.bin .leq (.t 6) (.c (.g (.int .u8 126)))⟩,aN 8 5 7,m 2 8]<|
.ret⟩
theorem Z9o:cF Tryz.prog 200 Zyu=some Zyu:=by kernel_rfl
def Zyv:Zg:=⟨2,18,[.tmp 4],false,sr [0,1] [mb 4 false]<|
sr [4] [m 5 0,⟨some 6,none,.lenS (.t 5)⟩,m 7 1,⟨some 8,none,.lenS (.t 7)⟩,bt 9 .geq 6 8,m 10 9,mG 11 10 true 0,mG 12 10 true 1,⟨some 13,some (10,true),.lenS (.t 12)⟩,⟨some 14,some (10,true),.slcS (.t 11) none (some (.t 13))⟩,mG 15 10 true 1,btG 16 10 true .eql 14 15,aN 17 10 16,m 4 17]<|
.ret⟩
theorem Z9p:cF Tryz.prog 202 Zyv=some Zyv:=by kernel_rfl
def Zyw:Zg:=⟨2,32,[.tmp 4],false,sr [0,3] [bx 3 1,mb 4 false]<|
.seq (sr [0,3,10] [la 8 5 3,k1 9 186 8,nt 10 9]<|
cd [0,3] 10 (sr [4] [mb 4 false]<|
.ret) no)<|
sr [3,5] [m 12 0,fa 13 0 3,l1 14 13,k2 15 169 12 14,m 11 15,ex 16 0 11,ex 17 1 11,al 5 [zs,zs,zi,zi,zi,zi],st 6 5 16,m 6 17]<|
sr [3,5,7] [⟨some 18,none,.build [gi,gi,gi,gi] [(1,1,(.c (.g (.int .i64 0)))),(2,1,(.c (.g (.int .i64 (-1))))),(3,1,(.c (.g (.int .i64 1))))]⟩,al 7 [zi,zi,zi,zi],st 4 7 18]<|
.seq (.drw [4] 0<|tk (fa 20 1 3)<|tk (l1 21 20)<|tk (la 23 5 3)<|tk (la 24 6 5)<|tk ⟨some 25,none,.build [gs,gi,gi,gi,gs,gs,gs,gi,gi,gi,gi] [(0,5,(.t 23)),(5,6,(.t 24))]⟩<|tk (fa 27 2 3)<|tk (l1 28 27)<|tk ⟨some 29,none,.iaddrA 4 1 (.t 7) (.t 28)⟩<|tk (l1 30 29)<|.one (k0 19 218)<|tk ⟨some 22,none,.indexA false 5 1 (.t 19) (.t 21)⟩<|.one ⟨some 26,none,.call (.t 22) [(.t 25)]⟩<|tk (bt 31 .eql 26 30)<|.free<|tk (m 4 31)<|.leaf)<|
.ret⟩
theorem Z9q:cF Tryz.prog 203 Zyw=some Zyw:=by kernel_rfl
def N9:IC :=
 .seq (sr [0,1,6] [l1 4 1,ln 5 4,bc 6 .gtr 5 0]<|
cd [0,1] 6 no (.exit 0))<|
.block [0,1] 1<|
sr [0,1,3] [l1 7 1,⟨some 8,none,.mkfn 205 [(.t 1)]⟩,k2 9 175 7 8,m 3 9]<|
.seq (sr [0,1,3,11] [m 10 3,bc 11 .lss 10 0]<|
cd [0,1,3] 11 (rg [0,1,3] [l1 12 1,ln 13 12,m 3 13]) no)<|
.seq (.seq (.regy [0,1,3,19] [m 14 0,l1 15 1,m 16 3,⟨some 17,none,.slc 8 (.t 15) none (some (.t 16))⟩,⟨some 18,none,.ycall (.t 14) [(.t 17)]⟩,nt 19 18])<|
cd [0,1,3] 19 (.ret) no)<|
rg [0,1] [l1 20 1,m 21 3,⟨some 22,none,.slc 8 (.t 20) (some (.t 21)) none⟩,st 1 1 22]
def Zyx:Zg:=⟨2,23,[],false,.block [] 0<|
.loop [0,1] [] N9⟩
theorem Z9r:cF Tryz.prog 204 Zyx=some Zyx:=by kernel_rfl
def Zyy:Zg:=⟨2,11,[.tmp 3],false,sr [1,2] [bx 2 0,mb 3 false]<|
.seq (.drw [3] 0<|tk (fa 4 0 2)<|tk (l1 5 4)<|tk (l1 6 1)<|tk ⟨some 7,none,.iaddr 8 (.t 6) (.c (.g (.int .i64 0)))⟩<|tk (fa 8 0 7)<|tk (l1 9 8)<|tk (bt 10 .neq 5 9)<|.free<|tk (m 3 10)<|.leaf)<|
.ret⟩
theorem Z9s:cF Tryz.prog 205 Zyy=some Zyy:=by kernel_rfl
def Zyz:Zg:=⟨3,32,[.tmp 6],false,sr [0,1,2] [mb 6 false]<|
sr [6] [m 7 1,bc 8 .eql 7 1,m 9 8,mG 10 9 true 0,mG 11 9 true 2,btG 12 9 true .eql 10 11,aN 13 9 12,m 14 13,mG 15 14 false 1,bcG 16 14 false .eql 15 2,mG 17 14 false 16,mG 18 17 true 0,mG 19 17 true 2,btG 20 17 true .lss 18 19,⟨some 21,some (14,false),.pick (.t 17) (.t 20) (.c (.g (.bool false)))⟩,oR 22 14 21,m 23 22,mG 24 23 false 1,bcG 25 23 false .eql 24 3,mG 26 23 false 25,mG 27 26 true 0,mG 28 26 true 2,btG 29 26 true .gtr 27 28,⟨some 30,some (23,false),.pick (.t 26) (.t 29) (.c (.g (.bool false)))⟩,oR 31 23 30,m 6 31]<|
.ret⟩
theorem Z9t:cF Tryz.prog 217 Zyz=some Zyz:=by kernel_rfl
def Zy0:Zg:=⟨0,2,[.cell 0 true 5],true,sr [0] [al 0 [.z (.nfn),.z (.nfn),.z (.nfn),.z (.nfn),.z (.nfn)]]<|
sr [0] [⟨some 1,none,.build [.g (.nfn),.g (.nfn),.g (.nfn),.g (.nfn),.g (.nfn)] [(1,1,(.c (.g (.fn 225)))),(2,1,(.c (.g (.fn 226)))),(3,1,(.c (.g (.fn 227)))),(4,1,(.c (.g (.fn 228))))]⟩,st 5 0 1]<|
.ret⟩
theorem Z9u:Vz Tryz.prog 218 true (V9 Zy0.body)=some Zy0:=by kernel_rfl
def Zy1:Zg:=⟨1,6,[.tmp 2],false,sr [0] [mb 2 false]<|
sr [2] [m 3 0,m 4 0,bt 5 .neq 3 4,m 2 5]<|
.ret⟩
theorem Z9v:cF Tryz.prog 224 Zy1=some Zy1:=by kernel_rfl
def Zy2:Zg:=⟨1,10,[.tmp 2],false,sr [1] [bx 1 0,mi 2 0]<|
sr [2] [fa 3 5 1,fa 4 2 3,l1 5 4,fa 6 0 1,fa 7 3 6,l1 8 7,k2 9 230 5 8,m 2 9]<|
.ret⟩
theorem Z9w:cF Tryz.prog 225 Zy2=some Zy2:=by kernel_rfl
def Zy3:Zg:=⟨1,10,[.tmp 2],false,sr [1] [bx 1 0,mi 2 0]<|
sr [2] [fa 3 5 1,fa 4 3 3,l1 5 4,fa 6 0 1,fa 7 3 6,l1 8 7,k2 9 230 5 8,m 2 9]<|
.ret⟩
theorem Z9x:cF Tryz.prog 226 Zy3=some Zy3:=by kernel_rfl
def Zy4:Zg:=⟨1,10,[.tmp 2],false,sr [1] [bx 1 0,mi 2 0]<|
sr [2] [fa 3 5 1,fa 4 4 3,l1 5 4,fa 6 0 1,fa 7 3 6,l1 8 7,k2 9 230 5 8,m 2 9]<|
.ret⟩
theorem Z9y:cF Tryz.prog 227 Zy4=some Zy4:=by kernel_rfl
def Zy5:Zg:=⟨1,10,[.tmp 2],false,sr [1] [bx 1 0,mi 2 0]<|
sr [2] [fa 3 5 1,fa 4 1 3,l1 5 4,fa 6 0 1,fa 7 4 6,l1 8 7,k2 9 231 5 8,m 2 9]<|
.ret⟩
theorem Z9z:cF Tryz.prog 228 Zy5=some Zy5:=by kernel_rfl
def Zy6:Zg:=⟨2,20,[.tmp 4],false,sr [0,1] [mi 4 0]<|
sr [0,1,5] [m 7 0,k1 8 224 7,m 5 8]<|
sr [0,1,5,6] [m 9 1,k1 10 224 9,m 6 10]<|
.seq (sr [0,1,6,11] [m 11 5]<|
cd [0,1,6] 11 (.seq (sr [12] [m 12 6]<|
cd [] 12 (sr [4] [mi 4 0]<|
.ret) no)<|
sr [4] [mi 4 (-1)]<|
.ret) no)<|
.seq (sr [0,1,13] [m 13 6]<|
cd [0,1] 13 (sr [4] [mi 4 1]<|
.ret) no)<|
.seq (sr [0,1,16] [m 14 0,m 15 1,bt 16 .lss 14 15]<|
cd [0,1] 16 (sr [4] [mi 4 (-1)]<|
.ret) no)<|
.seq (sr [19] [m 17 0,m 18 1,bt 19 .gtr 17 18]<|
cd [] 19 (sr [4] [mi 4 1]<|
.ret) no)<|
sr [4] [mi 4 0]<|
.ret⟩
theorem Z90:cF Tryz.prog 230 Zy6=some Zy6:=by kernel_rfl
def Zy7:Zg:=⟨2,20,[.tmp 4],false,sr [0,1] [mi 4 0]<|
sr [0,1,5] [m 7 0,k1 8 232 7,m 5 8]<|
sr [0,1,5,6] [m 9 1,k1 10 232 9,m 6 10]<|
.seq (sr [0,1,6,11] [m 11 5]<|
cd [0,1,6] 11 (.seq (sr [12] [m 12 6]<|
cd [] 12 (sr [4] [mi 4 0]<|
.ret) no)<|
sr [4] [mi 4 (-1)]<|
.ret) no)<|
.seq (sr [0,1,13] [m 13 6]<|
cd [0,1] 13 (sr [4] [mi 4 1]<|
.ret) no)<|
.seq (sr [0,1,16] [m 14 0,m 15 1,bt 16 .lss 14 15]<|
cd [0,1] 16 (sr [4] [mi 4 (-1)]<|
.ret) no)<|
.seq (sr [19] [m 17 0,m 18 1,bt 19 .gtr 17 18]<|
cd [] 19 (sr [4] [mi 4 1]<|
.ret) no)<|
sr [4] [mi 4 0]<|
.ret⟩
theorem Z91:cF Tryz.prog 231 Zy7=some Zy7:=by kernel_rfl
def Zy8:Zg:=⟨1,6,[.tmp 2],false,sr [0] [mb 2 false]<|
sr [2] [m 3 0,m 4 0,bt 5 .neq 3 4,m 2 5]<|
.ret⟩
theorem Z92:cF Tryz.prog 232 Zy8=some Zy8:=by kernel_rfl
end
end Go.Proofs.YtndfdnlbljhlgaaGreat
