/- The compiled functions of the seat, part IRg3. No conditions. -/
import Derived.Test.YtndfdnlbljhlgaaGreatAMJ4
import Derived.Test.YtndfdnlbljhlgaaGreatProg
import Derived.KernelRfl
namespace Go.Proofs.YtndfdnlbljhlgaaGreat
open Go Go.AM Go.Proofs Go.IR
noncomputable section
def L133_0:IC :=
 .seq (rg [0,3,9,10,11,12] [bt 12 .lss 11 10]) <|
 .seq (.cond [0,3,9,10,11] (.t 12) (.skip) (.exit 0)) <|
 .seq (.block [0,3,9,10,11] 1 <|
 .seq (rg [0,3,5,9,10,11] [ia 13 1 9 11,l1 14 13,m 5 14]) <|
 .seq (rg [0,3,9,10,11] [m 15 3,m 16 5,ln 17 16,bt 18 .add 15 17,m 3 18]) <|
 .seq (rg [0,3,9,10,11,20] [m 19 3,bc 20 .lss 19 0]) <|
 .cond [0,3,9,10,11] (.t 20) (rg [0,3,9,10,11] [⟨some 21,none,.mkif 9 (.c (.g (.str [108,101,110,32,111,117,116,32,111,102,32,114,97,110,103,101])))⟩,⟨none,none,.row 0 []⟩]) (.skip)) <|
 rg [0,3,9,10,11] [bc 22 .add 11 1,m 11 22]
def L133_1:IC :=
 .seq (rg [6,25,26,27,28] [bt 28 .lss 27 26]) <|
 .seq (.cond [6,25,26,27] (.t 28) (.skip) (.exit 2)) <|
 .seq (.block [6,25,26,27] 3 <|
 .seq (rg [6,8,25,26,27] [ia 29 1 25 27,l1 30 29,m 8 30]) <|
 rg [6,25,26,27] [m 31 6,m 32 8,ap 33 3 24 31 32,m 6 33]) <|
 rg [6,25,26,27] [bc 34 .add 27 1,m 27 34]
def F133:IFunc:=⟨1,36,[.tmp 2],false,.seq (rg [0] [nr 2 3]) <|
 .seq (rg [0,3] [mi 3 0]) <|
 .seq (.seq (rg [0,3,9,10,11] [m 9 0,ln 10 9,mi 11 0]) <|
 .block [0,3] 0 <|
 .loop [0,3,9,10,11] [] L133_0) <|
 .seq (rg [0,6] [m 23 3,⟨some 24,none,.call (.c (.g (.fn 174))) [(.c (.g (.nsl))),(.t 23)]⟩,m 6 24]) <|
 .seq (.seq (rg [6,25,26,27] [m 25 0,ln 26 25,mi 27 0]) <|
 .block [6] 2 <|
 .loop [6,25,26,27] [] L133_1) <|
 .seq (rg [2] [m 35 6,m 2 35]) <|
 .ret⟩
theorem c133:cFunc Tryz.prog 133 false (hintC F133.body)=some F133:=by kernel_rfl
def L134_0:IC :=
 .seq (.seq (rg [0,1,5,6,19] [m 16 6,m 17 0,ln 18 17,bt 19 .lss 16 18]) <|
 .cond [0,1,5,6] (.t 19) (.skip) (.exit 0)) <|
 .seq (.block [0,1,5,6] 1 <|
 .seq (rg [0,1,5,6,7] [m 22 0,m 23 6,ia 24 8 22 23,la 25 8 24,⟨some 7,none,.alloc [zi,zb,zs,zs,zi,zi,zi,zi]⟩,st 8 7 25]) <|
 .seq (rg [0,1,5,6,7,29] [m 26 1,la 27 8 7,⟨some 28,none,.call (.t 26) [(.t 27)]⟩,nt 29 28]) <|
 .cond [0,1,5,6] (.t 29) (.seq (rg [0,1,5,6] [m 30 0,m 31 5,la 32 8 7,ia 33 8 30 31,st 8 33 32]) <|
 rg [0,1,5,6] [m 34 5,bc 35 .add 34 1,m 5 35]) (.skip)) <|
 rg [0,1,5,6] [m 20 6,bc 21 .add 20 1,m 6 21]
def F134:IFunc:=⟨2,42,[.tmp 4],false,.seq (rg [0,1] [nr 4 8]) <|
 .seq (rg [0,1,5] [m 8 0,m 9 1,k2 10 175 8 9,m 5 10]) <|
 .seq (.seq (rg [0,1,5,12] [m 11 5,bc 12 .eql 11 (-1)]) <|
 .cond [0,1,5] (.t 12) (.seq (rg [4] [m 13 0,m 4 13]) <|
 .ret) (.skip)) <|
 .seq (.seq (rg [0,1,5,6] [m 14 5,bc 15 .add 14 1,m 6 15]) <|
 .block [0,5] 0 <|
 .loop [0,1,5,6] [] L134_0) <|
 .seq (rg [0,5] [m 36 0,m 37 5,⟨some 38,none,.slc 8 (.t 36) (some (.t 37)) none⟩,⟨none,none,.clear [i0,b0,s0,s0,i0,i0,i0,i0] (.t 38)⟩]) <|
 .seq (rg [4] [m 39 0,m 40 5,⟨some 41,none,.slc 8 (.t 39) none (some (.t 40))⟩,m 4 41]) <|
 .ret⟩
theorem c134:cFunc Tryz.prog 134 false (hintC F134.body)=some F134:=by kernel_rfl
def F135:IFunc:=⟨1,8,[.tmp 2],true,.seq (rg [0] [nr 2 8]) <|
 .seq (.seq (rg [0,4] [m 3 0,⟨some 4,none,.isnilS false (.t 3)⟩]) <|
 .cond [0] (.t 4) (.seq (rg [2] [nr 2 8]) <|
 .ret) (.skip)) <|
 .seq (rg [2] [⟨some 5,none,.mk0 8⟩,m 6 0,ap 7 8 80 5 6,m 2 7]) <|
 .ret⟩
theorem c135:cFunc Tryz.prog 135 true (hintC F135.body)=some F135:=by kernel_rfl
def F136:IFunc:=⟨2,8,[.tmp 3],false,.seq (rg [1,2] [bx 2 0,mb 3 false]) <|
 .seq (rg [3] [fa 4 0 2,l1 5 4,l1 6 1,bt 7 .leq 5 6,m 3 7]) <|
 .ret⟩
theorem c136:cFunc Tryz.prog 136 false (hintC F136.body)=some F136:=by kernel_rfl
def L137_0:IC :=
 .seq (rg [0,3,9,10,11,12] [bt 12 .lss 11 10]) <|
 .seq (.cond [0,3,9,10,11] (.t 12) (.skip) (.exit 0)) <|
 .seq (.block [0,3,9,10,11] 1 <|
 .seq (rg [0,3,5,9,10,11] [ia 13 4 9 11,la 14 4 13,⟨some 5,none,.alloc [zb,zs,zs,zi]⟩,st 4 5 14]) <|
 .seq (.seq (rg [0,3,5,7,9,10,11] [m 16 3,fa 17 1 5,l1 18 17,⟨some 19,none,.mget true .s none (.t 16) (.t 18)⟩,m 15 19,ex 20 0 15,ex 21 1 15,⟨some 6,none,.alloc []⟩,st 0 6 20,m 7 21]) <|
 .seq (rg [0,3,5,9,10,11,44] [m 22 7,m 23 22,fG 24 23 false 1 5,lG 25 23 false 24,k1G 26 23 false 176 25,nG 27 23 false 26,oR 28 23 27,m 29 28,fG 30 29 false 2 5,lG 31 29 false 30,⟨some 32,some (29,false),.lenS (.t 31)⟩,bcG 33 29 false .gtr 32 20,oR 34 29 33,m 35 34,fG 36 35 false 3 5,lG 37 35 false 36,bcG 38 35 false .lss 37 0,oR 39 35 38,m 40 39,fG 41 40 false 3 5,lG 42 40 false 41,bcG 43 40 false .gtr 42 1099511627775,oR 44 40 43]) <|
 .cond [0,3,5,9,10,11] (.t 44) (.seq (rg [2] [mb 2 false]) <|
 .ret) (.skip)) <|
 rg [0,3,9,10,11] [m 45 3,fa 46 1 5,l1 47 46,⟨some 48,none,.build [] []⟩,⟨none,none,.mset .s (.t 45) (.t 47) (.t 48)⟩]) <|
 rg [0,3,9,10,11] [bc 49 .add 11 1,m 11 49]
def F137:IFunc:=⟨1,53,[.tmp 2],false,.seq (rg [0] [mb 2 false]) <|
 .seq (rg [0,3] [⟨some 8,none,.mkmap⟩,m 3 8]) <|
 .seq (.seq (rg [0,3,9,10,11] [m 9 0,ln 10 9,mi 11 0]) <|
 .block [0] 0 <|
 .loop [0,3,9,10,11] [] L137_0) <|
 .seq (rg [2] [m 50 0,ln 51 50,bc 52 .leq 51 30,m 2 52]) <|
 .ret⟩
theorem c137:cFunc Tryz.prog 137 false (hintC F137.body)=some F137:=by kernel_rfl
def L138_0:IC :=
 .seq (rg [0,2,8,9,15,16,17,18] [bt 18 .lss 17 16]) <|
 .seq (.cond [0,2,8,9,15,16,17] (.t 18) (.skip) (.exit 0)) <|
 .seq (.block [0,2,8,9,15,16,17] 1 <|
 .seq (rg [0,2,8,9,11,15,16,17] [ia 19 4 15 17,la 20 4 19,⟨some 11,none,.alloc [zb,zs,zs,zi]⟩,st 4 11 20]) <|
 .seq (rg [0,2,8,9,11,12,15,16,17] [m 21 2,fa 22 0 11,l1 23 22,⟨some 24,none,.build [gi,gb,gs,gs,gi,gi,gi,gi] [(0,1,(.t 21)),(1,1,(.t 23))]⟩,⟨some 12,none,.alloc [zi,zb,zs,zs,zi,zi,zi,zi]⟩,st 8 12 24]) <|
 .seq (.seq (rg [0,2,8,9,11,12,15,16,17,26] [fa 25 0 11,l1 26 25]) <|
 .cond [0,2,8,9,12,15,16,17] (.t 26) (.seq (rg [0,2,8,9,12,13,14,15,16,17] [m 28 0,fa 29 1 11,l1 30 29,k2 31 169 28 30,m 27 31,ex 32 0 27,ex 33 1 27,⟨some 13,none,.alloc [zs,zs,zi,zi,zi,zi]⟩,st 6 13 32,m 14 33]) <|
 .seq (.seq (rg [0,2,8,9,12,13,15,16,17,35] [m 34 14,nt 35 34]) <|
 .cond [0,2,8,9,12,13,15,16,17] (.t 35) (.exit 1) (.skip)) <|
 rg [0,2,8,9,12,15,16,17] [la 36 6 13,fa 37 2 12,st 6 37 36]) (rg [0,2,8,9,12,15,16,17] [m 38 0,la 39 4 11,m 40 2,k3 41 170 38 39 40,fa 42 2 12,st 6 42 41])) <|
 .seq (rg [0,2,8,9,12,15,16,17] [m 43 0,la 44 8 12,⟨some 45,none,.bslice 8 1 [i0,b0,s0,s0,i0,i0,i0,i0] [(0,8,(.t 44))]⟩,m 46 2,k3 47 50 43 45 46,m 0 47]) <|
 .seq (rg [0,2,8,9,12,15,16,17] [m 48 9,m 49 48,mG 50 49 false 0,lnG 51 49 false 50,bcG 52 49 false .gtr 51 30,oR 53 49 52,m 9 53]) <|
 rg [0,2,8,9,15,16,17] [m 54 8,la 55 8 12,⟨some 56,none,.bslice 8 1 [i0,b0,s0,s0,i0,i0,i0,i0] [(0,8,(.t 55))]⟩,ap 57 8 80 54 56,m 8 57]) <|
 rg [0,2,8,9,15,16,17] [bc 58 .add 17 1,m 17 58]
def F138:IFunc:=⟨3,61,[.tmp 6,.tmp 7],false,.seq (rg [0,1,2] [nr 6 8,mb 7 false]) <|
 .seq (rg [0,1,2,8] [nr 8 8]) <|
 .seq (rg [0,1,2,8,9] [mb 9 false]) <|
 .seq (.seq (rg [0,2,8,9,15,16,17] [m 15 1,ln 16 15,mi 17 0]) <|
 .block [8,9] 0 <|
 .loop [0,2,8,9,15,16,17] [] L138_0) <|
 .seq (rg [6,7] [m 59 8,m 60 9,m 6 59,m 7 60]) <|
 .ret⟩
theorem c138:cFunc Tryz.prog 138 false (hintC F138.body)=some F138:=by kernel_rfl
def L139_0:IC :=
 .seq (rg [0,3,9,10,11,12] [bt 12 .lss 11 10]) <|
 .seq (.cond [0,3,9,10,11] (.t 12) (.skip) (.exit 0)) <|
 .seq (.block [0,3,9,10,11] 1 <|
 .seq (rg [0,3,5,9,10,11] [ia 13 1 9 11,l1 14 13,m 5 14]) <|
 .seq (rg [0,3,9,10,11] [m 15 3,m 16 5,ln 17 16,bt 18 .add 15 17,m 3 18]) <|
 .seq (rg [0,3,9,10,11,20] [m 19 3,bc 20 .lss 19 0]) <|
 .cond [0,3,9,10,11] (.t 20) (rg [0,3,9,10,11] [⟨some 21,none,.mkif 9 (.c (.g (.str [108,101,110,32,111,117,116,32,111,102,32,114,97,110,103,101])))⟩,⟨none,none,.row 0 []⟩]) (.skip)) <|
 rg [0,3,9,10,11] [bc 22 .add 11 1,m 11 22]
def L139_1:IC :=
 .seq (rg [6,25,26,27,28] [bt 28 .lss 27 26]) <|
 .seq (.cond [6,25,26,27] (.t 28) (.skip) (.exit 2)) <|
 .seq (.block [6,25,26,27] 3 <|
 .seq (rg [6,8,25,26,27] [ia 29 1 25 27,l1 30 29,m 8 30]) <|
 rg [6,25,26,27] [m 31 6,m 32 8,ap 33 8 80 31 32,m 6 33]) <|
 rg [6,25,26,27] [bc 34 .add 27 1,m 27 34]
def F139:IFunc:=⟨1,36,[.tmp 2],false,.seq (rg [0] [nr 2 8]) <|
 .seq (rg [0,3] [mi 3 0]) <|
 .seq (.seq (rg [0,3,9,10,11] [m 9 0,ln 10 9,mi 11 0]) <|
 .block [0,3] 0 <|
 .loop [0,3,9,10,11] [] L139_0) <|
 .seq (rg [0,6] [m 23 3,⟨some 24,none,.call (.c (.g (.fn 177))) [(.c (.g (.nsl))),(.t 23)]⟩,m 6 24]) <|
 .seq (.seq (rg [6,25,26,27] [m 25 0,ln 26 25,mi 27 0]) <|
 .block [6] 2 <|
 .loop [6,25,26,27] [] L139_1) <|
 .seq (rg [2] [m 35 6,m 2 35]) <|
 .ret⟩
theorem c139:cFunc Tryz.prog 139 false (hintC F139.body)=some F139:=by kernel_rfl
def L140_0:IC :=
 .seq (.seq (rg [0,3,4,48] [m 46 4,m 47 3,bt 48 .lss 46 47]) <|
 .cond [0,3,4] (.t 48) (.skip) (.exit 2)) <|
 .seq (.block [0,3,4] 3 <|
 .seq (.drw [0,3,4,61] 0 <|tk (m 51 0) <|tk (m 52 4) <|tk (ia 53 4 51 52) <|tk (fa 54 1 53) <|tk (l1 55 54) <|tk (m 56 0) <|tk (m 57 3) <|tk (ia 58 4 56 57) <|tk (fa 59 1 58) <|tk (l1 60 59) <|.free <|tk (bt 61 .eql 55 60) <|.leaf) <|
 .cond [0,3,4] (.t 61) (.seq (rg [2] [mb 2 false]) <|
 .ret) (.skip)) <|
 rg [0,3,4] [m 49 4,bc 50 .add 49 1,m 4 50]
def L140_1:IC :=
 .seq (.seq (rg [0,3,11] [m 8 3,m 9 0,ln 10 9,bt 11 .lss 8 10]) <|
 .cond [0,3] (.t 11) (.skip) (.exit 0)) <|
 .seq (.block [0,3] 1 <|
 .seq (.seq (rg [0,3,45] [m 14 0,m 15 3,ia 16 4 14 15,fa 17 1 16,l1 18 17,k1 19 178 18,nt 20 19,m 21 20,mG 22 21 false 0,mG 23 21 false 3,iG 24 21 false 4 22 23,fG 25 21 false 2 24,lG 26 21 false 25,⟨some 27,some (21,false),.lenS (.t 26)⟩,bcG 28 21 false .gtr 27 20,oR 29 21 28,m 30 29,mG 31 30 false 0,mG 32 30 false 3,iG 33 30 false 4 31 32,fG 34 30 false 3 33,lG 35 30 false 34,bcG 36 30 false .lss 35 0,oR 37 30 36,m 38 37,mG 39 38 false 0,mG 40 38 false 3,iG 41 38 false 4 39 40,fG 42 38 false 3 41,lG 43 38 false 42,bcG 44 38 false .gtr 43 1099511627775,oR 45 38 44]) <|
 .cond [0,3] (.t 45) (.seq (rg [2] [mb 2 false]) <|
 .ret) (.skip)) <|
 .seq (rg [0,3,4] [mi 4 0]) <|
 .block [0,3] 2 <|
 .loop [0,3,4] [] L140_0) <|
 rg [0,3] [m 12 3,bc 13 .add 12 1,m 3 13]
def F140:IFunc:=⟨1,62,[.tmp 2],false,.seq (rg [0] [mb 2 false]) <|
 .seq (.seq (rg [0,7] [m 5 0,ln 6 5,bc 7 .gtr 6 30]) <|
 .cond [0] (.t 7) (.seq (rg [2] [mb 2 false]) <|
 .ret) (.skip)) <|
 .seq (.seq (rg [0,3] [mi 3 0]) <|
 .block [] 0 <|
 .loop [0,3] [] L140_1) <|
 .seq (rg [2] [mb 2 true]) <|
 .ret⟩
theorem c140:cFunc Tryz.prog 140 false (hintC F140.body)=some F140:=by kernel_rfl
def L141_0:IC :=
 .seq (.seq (rg [0,1,4,6,10] [m 7 6,m 8 0,ln 9 8,bt 10 .lss 7 9]) <|
 .cond [0,1,4,6] (.t 10) (.skip) (.exit 0)) <|
 .seq (.block [0,1,4,6] 1 <|
 .seq (rg [0,1,4,6,19] [m 13 0,m 14 6,ia 15 6 13 14,fa 16 0 15,l1 17 16,m 18 1,bt 19 .eql 17 18]) <|
 .cond [0,1,4,6] (.t 19) (.seq (rg [4,5] [m 20 0,m 21 6,ia 22 6 20 21,la 23 6 22,st 6 4 23,mb 5 true]) <|
 .ret) (.skip)) <|
 rg [0,1,4,6] [m 11 6,bc 12 .add 11 1,m 6 12]
def F141:IFunc:=⟨2,25,[.cell 4 true 6,.tmp 5],false,.seq (rg [0,1,4] [⟨some 4,none,.alloc [zs,zs,zi,zi,zi,zi]⟩,mb 5 false]) <|
 .seq (.seq (rg [0,1,4,6] [mi 6 0]) <|
 .block [4] 0 <|
 .loop [0,1,4,6] [] L141_0) <|
 .seq (rg [4,5] [⟨some 24,none,.build [gs,gs,gi,gi,gi,gi] []⟩,st 6 4 24,mb 5 false]) <|
 .ret⟩
theorem c141:cFunc Tryz.prog 141 false (hintC F141.body)=some F141:=by kernel_rfl
def F142:IFunc:=⟨1,59,[.tmp 2],false,.seq (rg [1] [bx 1 0,mb 2 false]) <|
 .seq (.seq (rg [1,22] [fa 3 0 1,l1 4 3,k1 5 178 4,nt 6 5,m 7 6,fG 8 7 false 1 1,lG 9 7 false 8,⟨some 10,some (7,false),.lenS (.t 9)⟩,bcG 11 7 false .gtr 10 20,oR 12 7 11,m 13 12,fG 14 13 false 2 1,lG 15 13 false 14,bcG 16 13 false .lss 15 1,oR 17 13 16,m 18 17,fG 19 18 false 2 1,lG 20 18 false 19,bcG 21 18 false .gtr 20 1099511627775,oR 22 18 21]) <|
 .cond [1] (.t 22) (.seq (rg [2] [mb 2 false]) <|
 .ret) (.skip)) <|
 .seq (rg [2] [fa 23 3 1,l1 24 23,fa 25 2 1,l1 26 25,bt 27 .geq 24 26,m 28 27,fG 29 28 true 3 1,lG 30 28 true 29,bcG 31 28 true .leq 30 1099511627775,aN 32 28 31,m 33 32,fG 34 33 true 4 1,lG 35 33 true 34,bcG 36 33 true .geq 35 1,aN 37 33 36,m 38 37,fG 39 38 true 4 1,lG 40 38 true 39,fG 41 38 true 3 1,lG 42 38 true 41,fG 43 38 true 2 1,lG 44 38 true 43,btG 45 38 true .sub 42 44,bcG 46 38 true .add 45 1,btG 47 38 true .leq 40 46,aN 48 38 47,m 49 48,fG 50 49 true 5 1,lG 51 49 true 50,bcG 52 49 true .geq 51 0,aN 53 49 52,m 54 53,fG 55 54 true 5 1,lG 56 54 true 55,bcG 57 54 true .leq 56 1099511627775,aN 58 54 57,m 2 58]) <|
 .ret⟩
theorem c142:cFunc Tryz.prog 142 false (hintC F142.body)=some F142:=by kernel_rfl
def F143:IFunc:=⟨2,9,[.tmp 4],false,.seq (rg [0,1] [mb 4 false]) <|
 .seq (rg [4] [m 5 0,m 6 1,k2 7 179 5 6,bc 8 .geq 7 0,m 4 8]) <|
 .ret⟩
theorem c143:cFunc Tryz.prog 143 false (hintC F143.body)=some F143:=by kernel_rfl
def F144:IFunc:=⟨1,9,[.tmp 2],false,.seq (rg [0] [mb 2 false]) <|
 .seq (rg [2] [m 3 0,bc 4 .lss 3 0,m 5 4,mG 6 5 false 0,bcG 7 5 false .gtr 6 1099511627775,oR 8 5 7,m 2 8]) <|
 .ret⟩
theorem c144:cFunc Tryz.prog 144 false (hintC F144.body)=some F144:=by kernel_rfl
def F145:IFunc:=⟨2,9,[.tmp 4],false,.seq (rg [0,1] [mb 4 false]) <|
 .seq (rg [4] [m 5 0,m 6 1,k2 7 180 5 6,bc 8 .geq 7 0,m 4 8]) <|
 .ret⟩
theorem c145:cFunc Tryz.prog 145 false (hintC F145.body)=some F145:=by kernel_rfl
def F146:IFunc:=⟨2,8,[.tmp 3],false,.seq (rg [1,2] [bx 2 0,mb 3 false]) <|
 .seq (rg [3] [l1 4 1,la 5 5 2,⟨some 6,none,.call (.t 4) [(.t 5)]⟩,nt 7 6,m 3 7]) <|
 .ret⟩
theorem c146:cFunc Tryz.prog 146 false (hintC F146.body)=some F146:=by kernel_rfl
def F147:IFunc:=⟨2,9,[.tmp 4],false,.seq (rg [0,1] [mb 4 false]) <|
 .seq (rg [4] [m 5 0,m 6 1,k2 7 181 5 6,bc 8 .geq 7 0,m 4 8]) <|
 .ret⟩
theorem c147:cFunc Tryz.prog 147 false (hintC F147.body)=some F147:=by kernel_rfl
def F148:IFunc:=⟨2,8,[.tmp 3],false,.seq (rg [1,2] [bx 2 0,mb 3 false]) <|
 .seq (rg [3] [l1 4 1,la 5 4 2,⟨some 6,none,.call (.t 4) [(.t 5)]⟩,nt 7 6,m 3 7]) <|
 .ret⟩
theorem c148:cFunc Tryz.prog 148 false (hintC F148.body)=some F148:=by kernel_rfl
def F150:IFunc:=⟨1,4,[.tmp 2],true,.seq (rg [1] [bx 1 0,⟨some 2,none,.mov (.c (.g (.nfn)))⟩]) <|
 .seq (rg [2] [⟨some 3,none,.mkfn 183 [(.t 1)]⟩,m 2 3]) <|
 .ret⟩
theorem c150:cFunc Tryz.prog 150 true (hintC F150.body)=some F150:=by kernel_rfl
def L151_0:IC :=
 .seq (rg [0,1,7,8,9] [bt 9 .lss 8 7]) <|
 .seq (.cond [0,1,7,8] (.t 9) (.skip) (.exit 0)) <|
 .seq (.block [0,1,7,8] 1 <|
 .seq (rg [0,1,5,7,8] [m 10 8,m 5 10]) <|
 .seq (rg [0,1,5,7,8,16] [m 11 1,m 12 0,m 13 5,ia 14 1 12 13,l1 15 14,bt 16 .eql 11 15]) <|
 .cond [0,1,7,8] (.t 16) (.seq (rg [4] [m 17 5,m 4 17]) <|
 .ret) (.skip)) <|
 rg [0,1,7,8] [bc 18 .add 8 1,m 8 18]
def F151:IFunc:=⟨2,19,[.tmp 4],false,.seq (rg [0,1] [mi 4 0]) <|
 .seq (.seq (rg [0,1,7,8] [m 6 0,ln 7 6,mi 8 0]) <|
 .block [] 0 <|
 .loop [0,1,7,8] [] L151_0) <|
 .seq (rg [4] [mi 4 (-1)]) <|
 .ret⟩
theorem c151:cFunc Tryz.prog 151 false (hintC F151.body)=some F151:=by kernel_rfl
def L152_0:IC :=
 .seq (rg [1,5,8,9,10,11] [bt 11 .lss 10 9]) <|
 .seq (.cond [1,5,8,9,10] (.t 11) (.skip) (.exit 0)) <|
 .seq (.block [1,5,8,9,10] 1 <|
 .seq (rg [1,5,7,8,9,10] [ia 12 6 8 10,la 13 6 12,⟨some 7,none,.alloc [zs,zs,zi,zi,zi,zi]⟩,st 6 7 13]) <|
 .seq (rg [1,5,7,8,9,10,17] [fa 14 0 7,l1 15 14,m 16 1,k2 17 184 15 16]) <|
 .cond [1,5,8,9,10] (.t 17) (rg [1,5,8,9,10] [m 18 5,la 19 6 7,⟨some 20,none,.bslice 6 1 [s0,s0,i0,i0,i0,i0] [(0,6,(.t 19))]⟩,ap 21 6 64 18 20,m 5 21]) (.skip)) <|
 rg [1,5,8,9,10] [bc 22 .add 10 1,m 10 22]
def F152:IFunc:=⟨2,24,[.tmp 4],false,.seq (rg [0,1] [nr 4 6]) <|
 .seq (rg [0,1,5] [nr 5 6]) <|
 .seq (.seq (rg [1,5,8,9,10] [m 8 0,ln 9 8,mi 10 0]) <|
 .block [5] 0 <|
 .loop [1,5,8,9,10] [] L152_0) <|
 .seq (rg [4] [m 23 5,m 4 23]) <|
 .ret⟩
theorem c152:cFunc Tryz.prog 152 false (hintC F152.body)=some F152:=by kernel_rfl
def L153_0:IC :=
 .seq (rg [0,3,9,10,11,12] [bt 12 .lss 11 10]) <|
 .seq (.cond [0,3,9,10,11] (.t 12) (.skip) (.exit 0)) <|
 .seq (.block [0,3,9,10,11] 1 <|
 .seq (rg [0,3,5,9,10,11] [ia 13 1 9 11,l1 14 13,m 5 14]) <|
 .seq (rg [0,3,9,10,11] [m 15 3,m 16 5,ln 17 16,bt 18 .add 15 17,m 3 18]) <|
 .seq (rg [0,3,9,10,11,20] [m 19 3,bc 20 .lss 19 0]) <|
 .cond [0,3,9,10,11] (.t 20) (rg [0,3,9,10,11] [⟨some 21,none,.mkif 9 (.c (.g (.str [108,101,110,32,111,117,116,32,111,102,32,114,97,110,103,101])))⟩,⟨none,none,.row 0 []⟩]) (.skip)) <|
 rg [0,3,9,10,11] [bc 22 .add 11 1,m 11 22]
def L153_1:IC :=
 .seq (rg [6,25,26,27,28] [bt 28 .lss 27 26]) <|
 .seq (.cond [6,25,26,27] (.t 28) (.skip) (.exit 2)) <|
 .seq (.block [6,25,26,27] 3 <|
 .seq (rg [6,8,25,26,27] [ia 29 1 25 27,l1 30 29,m 8 30]) <|
 rg [6,25,26,27] [m 31 6,m 32 8,ap 33 4 48 31 32,m 6 33]) <|
 rg [6,25,26,27] [bc 34 .add 27 1,m 27 34]
def F153:IFunc:=⟨1,36,[.tmp 2],false,.seq (rg [0] [nr 2 4]) <|
 .seq (rg [0,3] [mi 3 0]) <|
 .seq (.seq (rg [0,3,9,10,11] [m 9 0,ln 10 9,mi 11 0]) <|
 .block [0,3] 0 <|
 .loop [0,3,9,10,11] [] L153_0) <|
 .seq (rg [0,6] [m 23 3,⟨some 24,none,.call (.c (.g (.fn 185))) [(.c (.g (.nsl))),(.t 23)]⟩,m 6 24]) <|
 .seq (.seq (rg [6,25,26,27] [m 25 0,ln 26 25,mi 27 0]) <|
 .block [6] 2 <|
 .loop [6,25,26,27] [] L153_1) <|
 .seq (rg [2] [m 35 6,m 2 35]) <|
 .ret⟩
theorem c153:cFunc Tryz.prog 153 false (hintC F153.body)=some F153:=by kernel_rfl
def L154_0:IC :=
 .seq (rg [2,3,4,28,29,30,31] [bt 31 .lss 30 29]) <|
 .seq (.cond [2,3,4,28,29,30] (.t 31) (.skip) (.exit 0)) <|
 .seq (.block [2,3,4,28,29,30] 1 <|
 .seq (rg [2,3,4,9,28,29,30] [ia 32 5 28 30,la 33 5 32,⟨some 9,none,.alloc [zs,zi,zi,zi,zs]⟩,st 5 9 33]) <|
 .seq (rg [2,3,4,28,29,30,36] [la 34 5 9,k1 35 186 34,nt 36 35]) <|
 .cond [2,3,4,28,29,30] (.t 36) (.seq (rg [4,5,6,7] [la 37 4 2,st 4 4 37,mb 5 false,nr 6 8,mi 7 1]) <|
 .ret) (.skip)) <|
 rg [2,3,4,28,29,30] [bc 38 .add 30 1,m 30 38]
def F154:IFunc:=⟨2,64,[.cell 4 true 4,.tmp 5,.tmp 6,.tmp 7],false,.seq (rg [2,3,4] [bx 2 0,bx 3 1,⟨some 4,none,.alloc [zi,zi,.s 6,.s 8]⟩,mb 5 false,nr 6 8,mi 7 0]) <|
 .seq (.seq (rg [2,3,4,25] [fa 15 0 3,l1 16 15,ln 17 16,fa 18 1 3,l1 19 18,ln 20 19,fa 21 2 3,l1 22 21,ln 23 22,⟨some 24,none,.mx (.t 17) [(.t 20),(.t 23)]⟩,bc 25 .gtr 24 4]) <|
 .cond [2,3,4] (.t 25) (.seq (rg [4,5,6,7] [la 26 4 2,st 4 4 26,mb 5 false,nr 6 8,mi 7 1]) <|
 .ret) (.skip)) <|
 .seq (.seq (rg [2,3,4,28,29,30] [fa 27 0 3,l1 28 27,ln 29 28,mi 30 0]) <|
 .block [2,3,4] 0 <|
 .loop [2,3,4,28,29,30] [] L154_0) <|
 .seq (.drw [2,3,4,10,11] 0 <|tk (la 39 4 2) <|tk (fa 41 0 3) <|tk (l1 42 41) <|tk (fa 44 2 3) <|tk (l1 45 44) <|.one (k1 40 20 39) <|.one (k2 43 187 40 42) <|tk (m 10 43) <|.free <|tk (m 11 45) <|.leaf) <|
 .seq (.seq (rg [2,3,4,10,11,46] [m 46 10]) <|
 .cond [2,4,10,11] (.t 46) (rg [2,4,10,11] [fa 47 1 3,l1 48 47,m 11 48]) (.skip)) <|
 .seq (rg [4,10,12,13,14] [la 50 4 2,m 51 11,k2 52 66 50 51,m 49 52,ex 53 0 49,ex 54 1 49,ex 55 2 49,⟨some 12,none,.alloc [zi,zi,.s 6,.s 8]⟩,st 4 12 53,m 13 54,m 14 55]) <|
 .seq (rg [4,5,6,7] [la 56 4 12,m 57 10,m 58 57,mG 59 58 true 14,bcG 60 58 true .eql 59 0,aN 61 58 60,m 62 13,m 63 14,st 4 4 56,m 5 61,m 6 62,m 7 63]) <|
 .ret⟩
theorem c154:cFunc Tryz.prog 154 false (hintC F154.body)=some F154:=by kernel_rfl
noncomputable def rd155:RD:=rdAt Tryz.prog 155 155
def F155:IFunc:=⟨4,64,[.cell 8 false 1,.cell 9 false 1,.cell 10 false 1],false,.seq (rg [1,2,4,7,8,9,10] [bx 4 0,bx 7 3,⟨some 8,none,.alloc [.s 8]⟩,⟨some 9,none,.alloc [zi]⟩,⟨some 10,none,.alloc [zi]⟩]) <|
 .seq (.block [1,2,4,7,8,9,10] 0 <|
 .seq (rg [1,2,4,7,8,9,10,13] [l1 14 7,bc 15 .lss 14 1,m 16 15,lG 17 16 false 7,bcG 18 16 false .gtr 17 30,oR 19 16 18,m 13 19]) <|
 .cond [1,2,4,7,8,9,10] (.t 13) (.seq (rg [8,9,10] [⟨none,none,.store 1 (.t 8) (.c (.g (.nsl)))⟩,⟨none,none,.store 1 (.t 9) (.c (.g (.int .i64 0)))⟩,⟨none,none,.store 1 (.t 10) (.c (.g (.int .i64 1)))⟩]) <|
 .ret) (.seq (rg [1,2,4,7,8,9,10,20] [m 21 2,bc 22 .lss 21 1,m 23 22,mG 24 23 false 2,fG 25 23 false 0 4,lG 26 23 false 25,bcG 27 23 false .add 26 1,btG 28 23 false .gtr 24 27,oR 29 23 28,m 20 29]) <|
 .cond [1,2,4,7,8,9,10] (.t 20) (.seq (rg [8,9,10] [⟨none,none,.store 1 (.t 8) (.c (.g (.nsl)))⟩,⟨none,none,.store 1 (.t 9) (.c (.g (.int .i64 0)))⟩,⟨none,none,.store 1 (.t 10) (.c (.g (.int .i64 8)))⟩]) <|
 .ret) (.seq (rg [1,2,4,7,8,9,10,30] [m 31 2,fa 32 1 4,l1 33 32,bt 34 .leq 31 33,m 30 34]) <|
 .cond [1,2,4,7,8,9,10] (.t 30) (.seq (rg [8,9,10] [⟨none,none,.store 1 (.t 8) (.c (.g (.nsl)))⟩,⟨none,none,.store 1 (.t 9) (.c (.g (.int .i64 0)))⟩,⟨none,none,.store 1 (.t 10) (.c (.g (.int .i64 9)))⟩]) <|
 .ret) (.skip)))) <|
 .seq (rg [1,2,4,7,8,9,10,11] [⟨some 11,none,.alloc [.s 8]⟩]) <|
 .seq (.seq (rg [4,7,8,9,10,11,40] [fa 35 3 4,l1 36 35,m 37 1,m 38 2,k3 39 189 36 37 38,k1 40 188 39]) <|
 .block [4,8,9,10,11] 1 <|
 .rfun [4,8,9,10,11] rd155 [7,8,9,10,11] (.t 40)) <|
 .seq (.drw [8,9,10] 0 <|tk (l1 60 11) <|tk (fa 61 0 4) <|tk (l1 62 61) <|tk (bc 63 .add 62 1) <|.one (st 1 8 60) <|.free <|.one (st 1 9 63) <|.one ⟨none,none,.store 1 (.t 10) (.c (.g (.int .i64 0)))⟩ <|.leaf) <|
 .ret⟩
theorem c155:cFunc Tryz.prog 155 false (hintC F155.body)=some F155:=by kernel_rfl
def R155:IRound:=⟨rd155,[41],rg [7,8,9,10,11,12] [m 12 41],  .block [] 2 <|
 .seq (.seq (rg [8,9,10,11,12,48] [l1 42 11,ln 43 42,m 44 12,ln 45 44,bt 46 .add 43 45,l1 47 7,bt 48 .leq 46 47]) <|
 .cond [8,9,10,11,12] (.t 48) (.seq (rg [] [l1 49 11,m 50 12,ap 51 8 80 49 50,st 1 11 51]) <|
 .exit 2) (.skip)) <|
 .seq (.seq (rg [8,9,10,11,12,54] [l1 52 11,ln 53 52,bc 54 .eql 53 0]) <|
 .cond [8,9,10,11,12] (.t 54) (.seq (rg [] [⟨none,none,.store 1 (.t 8) (.c (.g (.nsl)))⟩,⟨none,none,.store 1 (.t 9) (.c (.g (.int .i64 0)))⟩,⟨none,none,.store 1 (.t 10) (.c (.g (.int .i64 4)))⟩]) <|
 .ret) (.skip)) <|
 .seq (.drw [] 0 <|tk (l1 55 11) <|tk (m 56 12) <|tk ⟨some 57,none,.iaddr 8 (.t 56) (.c (.g (.int .i64 0)))⟩ <|tk (fa 58 0 57) <|tk (l1 59 58) <|.one (st 1 8 55) <|.free <|.one (st 1 9 59) <|.one ⟨none,none,.store 1 (.t 10) (.c (.g (.int .i64 0)))⟩ <|.leaf) <|
 .ret⟩
def ha155:List (List Nat):=[[7,8,9,10,11,12]]
def hb155:List (List Nat):=[[],[8,9,10,11,12,48],[8,9,10,11,12],[],[8,9,10,11,12,54],[8,9,10,11,12],[],[],[]]
theorem cr155:RoundC Tryz.prog R155:=⟨by kernel_rfl,by kernel_rfl,⟨ha155,by kernel_rfl⟩,⟨hb155,by kernel_rfl⟩⟩
def F156:IFunc:=⟨3,54,[.cell 6 true 2,.tmp 7,.tmp 8],false,.seq (rg [1,2,3,6] [bx 3 0,⟨some 6,none,.alloc [zi,.s 3]⟩,mi 7 0,mi 8 0]) <|
 .seq (rg [1,3,6,9] [m 11 2,m 9 11]) <|
 .seq (.seq (rg [1,3,6,9,22] [m 12 1,bc 13 .lss 12 1,m 14 13,mG 15 14 false 1,bcG 16 14 false .gtr 15 1000,oR 17 14 16,m 18 17,mG 19 18 false 9,k1G 20 18 false 126 19,nG 21 18 false 20,oR 22 18 21]) <|
 .cond [1,3,6,9] (.t 22) (.seq (rg [6,7,8] [la 23 2 3,st 2 6 23,mi 7 0,mi 8 1]) <|
 .ret) (.skip)) <|
 .seq (.seq (rg [1,3,6,9,32] [fa 24 1 3,l1 25 24,ln 26 25,bc 27 .geq 26 8,m 28 27,fG 29 28 false 0 3,lG 30 28 false 29,bcG 31 28 false .geq 30 1099511627775,oR 32 28 31]) <|
 .cond [1,3,6,9] (.t 32) (.seq (rg [6,7,8] [la 33 2 3,st 2 6 33,mi 7 0,mi 8 4]) <|
 .ret) (.skip)) <|
 .seq (rg [1,3,6,9] [fa 34 0 3,l1 35 34,bc 36 .add 35 1,fa 37 0 3,st 1 37 36]) <|
 .seq (rg [3,6,9,10] [fa 38 0 3,l1 39 38,m 40 1,⟨some 41,none,.build [gi,gi,gi] [(0,1,(.t 39)),(1,1,(.t 40))]⟩,⟨some 10,none,.alloc [zi,zi,zi]⟩,st 3 10 41]) <|
 .seq (rg [3,6,10] [m 42 9,k2 43 190 10 42]) <|
 .seq (rg [3,6] [fa 44 1 3,l1 45 44,la 46 3 10,⟨some 47,none,.bslice 3 1 [i0,i0,i0] [(0,3,(.t 46))]⟩,⟨some 48,none,.bslice 1 2 [.nsl] [(0,1,(.t 45)),(1,1,(.t 47))]⟩,k1 49 133 48,fa 50 1 3,st 1 50 49]) <|
 .seq (.drw [6,7,8] 0 <|tk (la 51 2 3) <|tk (fa 52 0 3) <|tk (l1 53 52) <|.one (st 2 6 51) <|.free <|tk (m 7 53) <|tk (mi 8 0) <|.leaf) <|
 .ret⟩
theorem c156:cFunc Tryz.prog 156 false (hintC F156.body)=some F156:=by kernel_rfl
def F157:IFunc:=⟨3,42,[.cell 6 true 2,.tmp 7,.tmp 8],false,.seq (rg [1,2,3,6] [bx 3 0,⟨some 6,none,.alloc [zi,.s 3]⟩,mi 7 0,mi 8 0]) <|
 .seq (rg [1,3,6,9] [m 12 2,m 9 12]) <|
 .seq (.seq (rg [1,3,6,9,15] [m 13 9,k1 14 126 13,nt 15 14]) <|
 .cond [1,3,6,9] (.t 15) (.seq (rg [6,7,8] [la 16 2 3,st 2 6 16,mi 7 0,mi 8 1]) <|
 .ret) (.skip)) <|
 .seq (rg [3,6,9,10] [la 17 2 3,m 18 1,k2 19 132 17 18,m 10 19]) <|
 .seq (.seq (rg [3,6,9,10,21] [m 20 10,bc 21 .lss 20 0]) <|
 .cond [3,6,9,10] (.t 21) (.seq (rg [6,7,8] [la 22 2 3,st 2 6 22,mi 7 0,mi 8 6]) <|
 .ret) (.skip)) <|
 .seq (rg [3,6,9,10,11] [fa 23 1 3,l1 24 23,m 25 10,ia 26 3 24 25,la 27 3 26,⟨some 11,none,.alloc [zi,zi,zi]⟩,st 3 11 27]) <|
 .seq (rg [3,6,10,11] [m 28 9,k2 29 190 11 28]) <|
 .seq (rg [3,6,10,11] [fa 30 1 3,l1 31 30,k1 32 191 31,fa 33 1 3,st 1 33 32]) <|
 .seq (rg [3,6,11] [fa 34 1 3,l1 35 34,m 36 10,la 37 3 11,ia 38 3 35 36,st 3 38 37]) <|
 .seq (.drw [6,7,8] 0 <|tk (la 39 2 3) <|tk (fa 40 1 11) <|tk (l1 41 40) <|.one (st 2 6 39) <|.free <|tk (m 7 41) <|tk (mi 8 0) <|.leaf) <|
 .ret⟩
theorem c157:cFunc Tryz.prog 157 false (hintC F157.body)=some F157:=by kernel_rfl
def F158:IFunc:=⟨2,27,[.tmp 4],true,.seq (rg [0,1] [nr 4 11]) <|
 .seq (.seq (rg [0,1,6] [m 5 1,bc 6 .lss 5 0]) <|
 .cond [0,1] (.t 6) (rg [0,1] [⟨some 7,none,.mkif 9 (.c (.g (.str [99,97,110,110,111,116,32,98,101,32,110,101,103,97,116,105,118,101])))⟩,⟨none,none,.row 0 []⟩]) (.skip)) <|
 .seq (.seq (rg [0,1] [m 8 1,m 9 0,⟨some 10,none,.cap (.t 9)⟩,m 11 0,ln 12 11,bt 13 .sub 10 12,bt 14 .sub 8 13,m 1 14]) <|
 .seq (rg [0,1,16] [m 15 1,bc 16 .gtr 15 0]) <|
 .cond [0] (.t 16) (rg [0] [m 17 0,m 18 0,⟨some 19,none,.cap (.t 18)⟩,⟨some 20,none,.slc 11 (.t 17) none (some (.t 19))⟩,m 21 1,⟨some 22,none,.appZ 11 120 [i0,i0,i0,i0,i0,i0,i0,i0,b0,.nsl,.nsl] (.t 20) (.t 21)⟩,m 23 0,ln 24 23,⟨some 25,none,.slc 11 (.t 22) none (some (.t 24))⟩,m 0 25]) (.skip)) <|
 .seq (rg [4] [m 26 0,m 4 26]) <|
 .ret⟩
theorem c158:cFunc Tryz.prog 158 true (hintC F158.body)=some F158:=by kernel_rfl
def L160_0:IC :=
 .seq (rg [0,1,7,8,9] [bt 9 .lss 8 7]) <|
 .seq (.cond [0,1,7,8] (.t 9) (.skip) (.exit 0)) <|
 .seq (.block [0,1,7,8] 1 <|
 .seq (rg [0,1,5,7,8] [m 10 8,m 5 10]) <|
 .seq (rg [0,1,5,7,8,16] [m 11 1,m 12 0,m 13 5,ia 14 2 12 13,la 15 2 14,⟨some 16,none,.call (.t 11) [(.t 15)]⟩]) <|
 .cond [0,1,7,8] (.t 16) (.seq (rg [4] [m 17 5,m 4 17]) <|
 .ret) (.skip)) <|
 rg [0,1,7,8] [bc 18 .add 8 1,m 8 18]
def F160:IFunc:=⟨2,19,[.tmp 4],false,.seq (rg [0,1] [mi 4 0]) <|
 .seq (.seq (rg [0,1,7,8] [m 6 0,ln 7 6,mi 8 0]) <|
 .block [] 0 <|
 .loop [0,1,7,8] [] L160_0) <|
 .seq (rg [4] [mi 4 (-1)]) <|
 .ret⟩
theorem c160:cFunc Tryz.prog 160 false (hintC F160.body)=some F160:=by kernel_rfl
def F161:IFunc:=⟨2,8,[.tmp 3],false,.seq (rg [1,2] [bx 2 0,mb 3 false]) <|
 .seq (rg [3] [fa 4 0 2,l1 5 4,l1 6 1,bt 7 .eql 5 6,m 3 7]) <|
 .ret⟩
theorem c161:cFunc Tryz.prog 161 false (hintC F161.body)=some F161:=by kernel_rfl
def L162_0:IC :=
 .seq (rg [0,3,9,10,11,12] [bt 12 .lss 11 10]) <|
 .seq (.cond [0,3,9,10,11] (.t 12) (.skip) (.exit 0)) <|
 .seq (.block [0,3,9,10,11] 1 <|
 .seq (rg [0,3,5,9,10,11] [ia 13 1 9 11,l1 14 13,m 5 14]) <|
 .seq (rg [0,3,9,10,11] [m 15 3,m 16 5,ln 17 16,bt 18 .add 15 17,m 3 18]) <|
 .seq (rg [0,3,9,10,11,20] [m 19 3,bc 20 .lss 19 0]) <|
 .cond [0,3,9,10,11] (.t 20) (rg [0,3,9,10,11] [⟨some 21,none,.mkif 9 (.c (.g (.str [108,101,110,32,111,117,116,32,111,102,32,114,97,110,103,101])))⟩,⟨none,none,.row 0 []⟩]) (.skip)) <|
 rg [0,3,9,10,11] [bc 22 .add 11 1,m 11 22]
def L162_1:IC :=
 .seq (rg [6,25,26,27,28] [bt 28 .lss 27 26]) <|
 .seq (.cond [6,25,26,27] (.t 28) (.skip) (.exit 2)) <|
 .seq (.block [6,25,26,27] 3 <|
 .seq (rg [6,8,25,26,27] [ia 29 1 25 27,l1 30 29,m 8 30]) <|
 rg [6,25,26,27] [m 31 6,m 32 8,ap 33 2 16 31 32,m 6 33]) <|
 rg [6,25,26,27] [bc 34 .add 27 1,m 27 34]
def F162:IFunc:=⟨1,36,[.tmp 2],false,.seq (rg [0] [nr 2 2]) <|
 .seq (rg [0,3] [mi 3 0]) <|
 .seq (.seq (rg [0,3,9,10,11] [m 9 0,ln 10 9,mi 11 0]) <|
 .block [0,3] 0 <|
 .loop [0,3,9,10,11] [] L162_0) <|
 .seq (rg [0,6] [m 23 3,⟨some 24,none,.call (.c (.g (.fn 194))) [(.c (.g (.nsl))),(.t 23)]⟩,m 6 24]) <|
 .seq (.seq (rg [6,25,26,27] [m 25 0,ln 26 25,mi 27 0]) <|
 .block [6] 2 <|
 .loop [6,25,26,27] [] L162_1) <|
 .seq (rg [2] [m 35 6,m 2 35]) <|
 .ret⟩
theorem c162:cFunc Tryz.prog 162 false (hintC F162.body)=some F162:=by kernel_rfl
def F163:IFunc:=⟨1,8,[.tmp 2],true,.seq (rg [0] [nr 2 2]) <|
 .seq (.seq (rg [0,4] [m 3 0,⟨some 4,none,.isnilS false (.t 3)⟩]) <|
 .cond [0] (.t 4) (.seq (rg [2] [nr 2 2]) <|
 .ret) (.skip)) <|
 .seq (rg [2] [⟨some 5,none,.mk0 2⟩,m 6 0,ap 7 2 16 5 6,m 2 7]) <|
 .ret⟩
theorem c163:cFunc Tryz.prog 163 true (hintC F163.body)=some F163:=by kernel_rfl
def F164:IFunc:=⟨1,4,[.tmp 2],true,.seq (rg [1] [bx 1 0,⟨some 2,none,.mov (.c (.g (.nfn)))⟩]) <|
 .seq (rg [2] [⟨some 3,none,.mkfn 195 [(.t 1)]⟩,m 2 3]) <|
 .ret⟩
theorem c164:cFunc Tryz.prog 164 true (hintC F164.body)=some F164:=by kernel_rfl
def L165_0:IC :=
 .seq (rg [0,3,9,10,11,12] [bt 12 .lss 11 10]) <|
 .seq (.cond [0,3,9,10,11] (.t 12) (.skip) (.exit 0)) <|
 .seq (.block [0,3,9,10,11] 1 <|
 .seq (rg [0,3,5,9,10,11] [ia 13 1 9 11,l1 14 13,m 5 14]) <|
 .seq (rg [0,3,9,10,11] [m 15 3,m 16 5,ln 17 16,bt 18 .add 15 17,m 3 18]) <|
 .seq (rg [0,3,9,10,11,20] [m 19 3,bc 20 .lss 19 0]) <|
 .cond [0,3,9,10,11] (.t 20) (rg [0,3,9,10,11] [⟨some 21,none,.mkif 9 (.c (.g (.str [108,101,110,32,111,117,116,32,111,102,32,114,97,110,103,101])))⟩,⟨none,none,.row 0 []⟩]) (.skip)) <|
 rg [0,3,9,10,11] [bc 22 .add 11 1,m 11 22]
def L165_1:IC :=
 .seq (rg [6,25,26,27,28] [bt 28 .lss 27 26]) <|
 .seq (.cond [6,25,26,27] (.t 28) (.skip) (.exit 2)) <|
 .seq (.block [6,25,26,27] 3 <|
 .seq (rg [6,8,25,26,27] [ia 29 1 25 27,l1 30 29,m 8 30]) <|
 rg [6,25,26,27] [m 31 6,m 32 8,ap 33 6 64 31 32,m 6 33]) <|
 rg [6,25,26,27] [bc 34 .add 27 1,m 27 34]
def F165:IFunc:=⟨1,36,[.tmp 2],false,.seq (rg [0] [nr 2 6]) <|
 .seq (rg [0,3] [mi 3 0]) <|
 .seq (.seq (rg [0,3,9,10,11] [m 9 0,ln 10 9,mi 11 0]) <|
 .block [0,3] 0 <|
 .loop [0,3,9,10,11] [] L165_0) <|
 .seq (rg [0,6] [m 23 3,⟨some 24,none,.call (.c (.g (.fn 196))) [(.c (.g (.nsl))),(.t 23)]⟩,m 6 24]) <|
 .seq (.seq (rg [6,25,26,27] [m 25 0,ln 26 25,mi 27 0]) <|
 .block [6] 2 <|
 .loop [6,25,26,27] [] L165_1) <|
 .seq (rg [2] [m 35 6,m 2 35]) <|
 .ret⟩
theorem c165:cFunc Tryz.prog 165 false (hintC F165.body)=some F165:=by kernel_rfl
def F168:IFunc:=⟨1,45,[.tmp 2],false,.seq (rg [1] [bx 1 0,mb 2 false]) <|
 .seq (rg [2] [fa 3 0 1,l1 4 3,k1 5 176 4,m 6 5,fG 7 6 true 1 1,lG 8 6 true 7,⟨some 9,some (6,true),.lenS (.t 8)⟩,bcG 10 6 true .leq 9 20,aN 11 6 10,m 12 11,fG 13 12 true 2 1,lG 14 12 true 13,⟨some 15,some (12,true),.call (.c (.g (.fn 198))) [(.t 14),(.c (.g (.int .i64 1)))]⟩,aN 16 12 15,m 17 16,fG 18 17 true 3 1,lG 19 17 true 18,fG 20 17 true 2 1,lG 21 17 true 20,k2G 22 17 true 198 19 21,aN 23 17 22,m 24 23,fG 25 24 true 4 1,lG 26 24 true 25,bcG 27 24 true .geq 26 1,aN 28 24 27,m 29 28,fG 30 29 true 4 1,lG 31 29 true 30,fG 32 29 true 3 1,lG 33 29 true 32,fG 34 29 true 2 1,lG 35 29 true 34,btG 36 29 true .sub 33 35,bcG 37 29 true .add 36 1,btG 38 29 true .leq 31 37,aN 39 29 38,m 40 39,fG 41 40 true 5 1,lG 42 40 true 41,⟨some 43,some (40,true),.call (.c (.g (.fn 198))) [(.t 42),(.c (.g (.int .i64 0)))]⟩,aN 44 40 43,m 2 44]) <|
 .ret⟩
theorem c168:cFunc Tryz.prog 168 false (hintC F168.body)=some F168:=by kernel_rfl
def F169:IFunc:=⟨2,18,[.cell 4 true 6,.tmp 5],false,.seq (rg [0,1,4] [⟨some 4,none,.alloc [zs,zs,zi,zi,zi,zi]⟩,mb 5 false]) <|
 .seq (rg [0,4,6] [m 7 0,m 8 1,k1 9 164 8,k2 10 131 7 9,m 6 10]) <|
 .seq (.seq (rg [0,4,6,12] [m 11 6,bc 12 .lss 11 0]) <|
 .cond [0,4,6] (.t 12) (.seq (rg [4,5] [⟨some 13,none,.build [gs,gs,gi,gi,gi,gi] []⟩,st 6 4 13,mb 5 false]) <|
 .ret) (.skip)) <|
 .seq (rg [4,5] [m 14 0,m 15 6,ia 16 6 14 15,la 17 6 16,st 6 4 17,mb 5 true]) <|
 .ret⟩
theorem c169:cFunc Tryz.prog 169 false (hintC F169.body)=some F169:=by kernel_rfl
def F170:IFunc:=⟨3,35,[.cell 6 true 6],false,.seq (rg [0,2,4,6] [bx 4 1,⟨some 6,none,.alloc [zs,zs,zi,zi,zi,zi]⟩]) <|
 .seq (rg [0,4,6,7] [fa 10 1 4,l1 11 10,fa 12 2 4,l1 13 12,m 14 2,m 15 2,fa 16 3 4,l1 17 16,⟨some 18,none,.build [gs,gs,gi,gi,gi,gi] [(0,1,(.t 11)),(1,1,(.t 13)),(2,1,(.t 14)),(3,1,(.t 15)),(4,1,(.c (.g (.int .i64 1)))),(5,1,(.t 17))]⟩,⟨some 7,none,.alloc [zs,zs,zi,zi,zi,zi]⟩,st 6 7 18]) <|
 .seq (.seq (rg [6,7,8,9] [m 20 0,fa 21 1 4,l1 22 21,k2 23 169 20 22,m 19 23,ex 24 0 19,ex 25 1 19,⟨some 8,none,.alloc [zs,zs,zi,zi,zi,zi]⟩,st 6 8 24,m 9 25]) <|
 .seq (rg [6,7,8,26] [m 26 9]) <|
 .cond [6,7] (.t 26) (.drw [6,7] 0 <|tk (fa 27 2 8) <|tk (l1 28 27) <|tk (fa 29 4 8) <|tk (l1 30 29) <|tk (bc 31 .add 30 1) <|tk (fa 32 2 7) <|.one (st 1 32 28) <|.free <|tk (fa 33 4 7) <|.one (st 1 33 31) <|.leaf) (.skip)) <|
 .seq (rg [6] [la 34 6 7,st 6 6 34]) <|
 .ret⟩
theorem c170:cFunc Tryz.prog 170 false (hintC F170.body)=some F170:=by kernel_rfl
def F171:IFunc:=⟨2,8,[.tmp 3],false,.seq (rg [1,2] [bx 2 0,mb 3 false]) <|
 .seq (rg [3] [l1 4 1,la 5 6 2,⟨some 6,none,.call (.t 4) [(.t 5)]⟩,nt 7 6,m 3 7]) <|
 .ret⟩
theorem c171:cFunc Tryz.prog 171 false (hintC F171.body)=some F171:=by kernel_rfl
def F172:IFunc:=⟨2,9,[.tmp 4],false,.seq (rg [0,1] [mb 4 false]) <|
 .seq (rg [4] [m 5 0,m 6 1,k2 7 175 5 6,bc 8 .geq 7 0,m 4 8]) <|
 .ret⟩
theorem c172:cFunc Tryz.prog 172 false (hintC F172.body)=some F172:=by kernel_rfl
def F173:IFunc:=⟨2,8,[.tmp 3],false,.seq (rg [1,2] [bx 2 0,mb 3 false]) <|
 .seq (rg [3] [l1 4 1,la 5 8 2,⟨some 6,none,.call (.t 4) [(.t 5)]⟩,nt 7 6,m 3 7]) <|
 .ret⟩
theorem c173:cFunc Tryz.prog 173 false (hintC F173.body)=some F173:=by kernel_rfl
def F174:IFunc:=⟨2,27,[.tmp 4],true,.seq (rg [0,1] [nr 4 3]) <|
 .seq (.seq (rg [0,1,6] [m 5 1,bc 6 .lss 5 0]) <|
 .cond [0,1] (.t 6) (rg [0,1] [⟨some 7,none,.mkif 9 (.c (.g (.str [99,97,110,110,111,116,32,98,101,32,110,101,103,97,116,105,118,101])))⟩,⟨none,none,.row 0 []⟩]) (.skip)) <|
 .seq (.seq (rg [0,1] [m 8 1,m 9 0,⟨some 10,none,.cap (.t 9)⟩,m 11 0,ln 12 11,bt 13 .sub 10 12,bt 14 .sub 8 13,m 1 14]) <|
 .seq (rg [0,1,16] [m 15 1,bc 16 .gtr 15 0]) <|
 .cond [0] (.t 16) (rg [0] [m 17 0,m 18 0,⟨some 19,none,.cap (.t 18)⟩,⟨some 20,none,.slc 3 (.t 17) none (some (.t 19))⟩,m 21 1,⟨some 22,none,.appZ 3 24 [i0,i0,i0] (.t 20) (.t 21)⟩,m 23 0,ln 24 23,⟨some 25,none,.slc 3 (.t 22) none (some (.t 24))⟩,m 0 25]) (.skip)) <|
 .seq (rg [4] [m 26 0,m 4 26]) <|
 .ret⟩
theorem c174:cFunc Tryz.prog 174 true (hintC F174.body)=some F174:=by kernel_rfl
def L175_0:IC :=
 .seq (rg [0,1,7,8,9] [bt 9 .lss 8 7]) <|
 .seq (.cond [0,1,7,8] (.t 9) (.skip) (.exit 0)) <|
 .seq (.block [0,1,7,8] 1 <|
 .seq (rg [0,1,5,7,8] [m 10 8,m 5 10]) <|
 .seq (rg [0,1,5,7,8,16] [m 11 1,m 12 0,m 13 5,ia 14 8 12 13,la 15 8 14,⟨some 16,none,.call (.t 11) [(.t 15)]⟩]) <|
 .cond [0,1,7,8] (.t 16) (.seq (rg [4] [m 17 5,m 4 17]) <|
 .ret) (.skip)) <|
 rg [0,1,7,8] [bc 18 .add 8 1,m 8 18]
def F175:IFunc:=⟨2,19,[.tmp 4],false,.seq (rg [0,1] [mi 4 0]) <|
 .seq (.seq (rg [0,1,7,8] [m 6 0,ln 7 6,mi 8 0]) <|
 .block [] 0 <|
 .loop [0,1,7,8] [] L175_0) <|
 .seq (rg [4] [mi 4 (-1)]) <|
 .ret⟩
theorem c175:cFunc Tryz.prog 175 false (hintC F175.body)=some F175:=by kernel_rfl
def F176:IFunc:=⟨1,5,[.tmp 2],false,.seq (rg [0] [mb 2 false]) <|
 .seq (rg [2] [m 3 0,⟨some 4,none,.call (.c (.g (.fn 199))) [(.t 3),(.c (.g (.int .i64 40))),(.c (.g (.fn 200)))]⟩,m 2 4]) <|
 .ret⟩
theorem c176:cFunc Tryz.prog 176 false (hintC F176.body)=some F176:=by kernel_rfl
def F177:IFunc:=⟨2,27,[.tmp 4],true,.seq (rg [0,1] [nr 4 8]) <|
 .seq (.seq (rg [0,1,6] [m 5 1,bc 6 .lss 5 0]) <|
 .cond [0,1] (.t 6) (rg [0,1] [⟨some 7,none,.mkif 9 (.c (.g (.str [99,97,110,110,111,116,32,98,101,32,110,101,103,97,116,105,118,101])))⟩,⟨none,none,.row 0 []⟩]) (.skip)) <|
 .seq (.seq (rg [0,1] [m 8 1,m 9 0,⟨some 10,none,.cap (.t 9)⟩,m 11 0,ln 12 11,bt 13 .sub 10 12,bt 14 .sub 8 13,m 1 14]) <|
 .seq (rg [0,1,16] [m 15 1,bc 16 .gtr 15 0]) <|
 .cond [0] (.t 16) (rg [0] [m 17 0,m 18 0,⟨some 19,none,.cap (.t 18)⟩,⟨some 20,none,.slc 8 (.t 17) none (some (.t 19))⟩,m 21 1,⟨some 22,none,.appZ 8 80 [i0,b0,s0,s0,i0,i0,i0,i0] (.t 20) (.t 21)⟩,m 23 0,ln 24 23,⟨some 25,none,.slc 8 (.t 22) none (some (.t 24))⟩,m 0 25]) (.skip)) <|
 .seq (rg [4] [m 26 0,m 4 26]) <|
 .ret⟩
theorem c177:cFunc Tryz.prog 177 true (hintC F177.body)=some F177:=by kernel_rfl
def L178_0:IC :=
 .seq (.seq (rg [0,3,15] [m 12 3,m 13 0,⟨some 14,none,.lenS (.t 13)⟩,bt 15 .lss 12 14]) <|
 .cond [0,3] (.t 15) (.skip) (.exit 0)) <|
 .seq (.block [0,3] 1 <|
 .seq (rg [0,3,27] [m 18 0,m 19 3,⟨some 20,none,.index (.t 18) (.t 19)⟩,⟨some 21,none,.bin .lss (.t 20) (.c (.g (.int .u8 33)))⟩,m 22 21,mG 23 22 false 0,mG 24 22 false 3,⟨some 25,some (22,false),.index (.t 23) (.t 24)⟩,⟨some 26,some (22,false),.bin .gtr (.t 25) (.c (.g (.int .u8 126)))⟩,oR 27 22 26]) <|
 .cond [0,3] (.t 27) (.seq (rg [2] [mb 2 false]) <|
 .ret) (.skip)) <|
 rg [0,3] [m 16 3,bc 17 .add 16 1,m 3 17]
def F178:IFunc:=⟨1,28,[.tmp 2],false,.seq (rg [0] [mb 2 false]) <|
 .seq (.seq (rg [0,11] [m 4 0,⟨some 5,none,.lenS (.t 4)⟩,bc 6 .lss 5 1,m 7 6,mG 8 7 false 0,⟨some 9,some (7,false),.lenS (.t 8)⟩,bcG 10 7 false .gtr 9 40,oR 11 7 10]) <|
 .cond [0] (.t 11) (.seq (rg [2] [mb 2 false]) <|
 .ret) (.skip)) <|
 .seq (.seq (rg [0,3] [mi 3 0]) <|
 .block [] 0 <|
 .loop [0,3] [] L178_0) <|
 .seq (rg [2] [mb 2 true]) <|
 .ret⟩
theorem c178:cFunc Tryz.prog 178 false (hintC F178.body)=some F178:=by kernel_rfl
def L179_0:IC :=
 .seq (rg [0,1,7,8,9] [bt 9 .lss 8 7]) <|
 .seq (.cond [0,1,7,8] (.t 9) (.skip) (.exit 0)) <|
 .seq (.block [0,1,7,8] 1 <|
 .seq (rg [0,1,5,7,8] [m 10 8,m 5 10]) <|
 .seq (rg [0,1,5,7,8,16] [m 11 1,m 12 0,m 13 5,ia 14 1 12 13,l1 15 14,⟨some 16,none,.call (.t 11) [(.t 15)]⟩]) <|
 .cond [0,1,7,8] (.t 16) (.seq (rg [4] [m 17 5,m 4 17]) <|
 .ret) (.skip)) <|
 rg [0,1,7,8] [bc 18 .add 8 1,m 8 18]
def F179:IFunc:=⟨2,19,[.tmp 4],false,.seq (rg [0,1] [mi 4 0]) <|
 .seq (.seq (rg [0,1,7,8] [m 6 0,ln 7 6,mi 8 0]) <|
 .block [] 0 <|
 .loop [0,1,7,8] [] L179_0) <|
 .seq (rg [4] [mi 4 (-1)]) <|
 .ret⟩
theorem c179:cFunc Tryz.prog 179 false (hintC F179.body)=some F179:=by kernel_rfl
def L180_0:IC :=
 .seq (rg [0,1,7,8,9] [bt 9 .lss 8 7]) <|
 .seq (.cond [0,1,7,8] (.t 9) (.skip) (.exit 0)) <|
 .seq (.block [0,1,7,8] 1 <|
 .seq (rg [0,1,5,7,8] [m 10 8,m 5 10]) <|
 .seq (rg [0,1,5,7,8,16] [m 11 1,m 12 0,m 13 5,ia 14 5 12 13,la 15 5 14,⟨some 16,none,.call (.t 11) [(.t 15)]⟩]) <|
 .cond [0,1,7,8] (.t 16) (.seq (rg [4] [m 17 5,m 4 17]) <|
 .ret) (.skip)) <|
 rg [0,1,7,8] [bc 18 .add 8 1,m 8 18]
def F180:IFunc:=⟨2,19,[.tmp 4],false,.seq (rg [0,1] [mi 4 0]) <|
 .seq (.seq (rg [0,1,7,8] [m 6 0,ln 7 6,mi 8 0]) <|
 .block [] 0 <|
 .loop [0,1,7,8] [] L180_0) <|
 .seq (rg [4] [mi 4 (-1)]) <|
 .ret⟩
theorem c180:cFunc Tryz.prog 180 false (hintC F180.body)=some F180:=by kernel_rfl
def L181_0:IC :=
 .seq (rg [0,1,7,8,9] [bt 9 .lss 8 7]) <|
 .seq (.cond [0,1,7,8] (.t 9) (.skip) (.exit 0)) <|
 .seq (.block [0,1,7,8] 1 <|
 .seq (rg [0,1,5,7,8] [m 10 8,m 5 10]) <|
 .seq (rg [0,1,5,7,8,16] [m 11 1,m 12 0,m 13 5,ia 14 4 12 13,la 15 4 14,⟨some 16,none,.call (.t 11) [(.t 15)]⟩]) <|
 .cond [0,1,7,8] (.t 16) (.seq (rg [4] [m 17 5,m 4 17]) <|
 .ret) (.skip)) <|
 rg [0,1,7,8] [bc 18 .add 8 1,m 8 18]
def F181:IFunc:=⟨2,19,[.tmp 4],false,.seq (rg [0,1] [mi 4 0]) <|
 .seq (.seq (rg [0,1,7,8] [m 6 0,ln 7 6,mi 8 0]) <|
 .block [] 0 <|
 .loop [0,1,7,8] [] L181_0) <|
 .seq (rg [4] [mi 4 (-1)]) <|
 .ret⟩
theorem c181:cFunc Tryz.prog 181 false (hintC F181.body)=some F181:=by kernel_rfl
def F184:IFunc:=⟨2,8,[.tmp 4],false,.seq (rg [0,1] [mb 4 false]) <|
 .seq (rg [4] [m 5 0,m 6 1,k2 7 202 5 6,m 4 7]) <|
 .ret⟩
theorem c184:cFunc Tryz.prog 184 false (hintC F184.body)=some F184:=by kernel_rfl
def F185:IFunc:=⟨2,27,[.tmp 4],true,.seq (rg [0,1] [nr 4 4]) <|
 .seq (.seq (rg [0,1,6] [m 5 1,bc 6 .lss 5 0]) <|
 .cond [0,1] (.t 6) (rg [0,1] [⟨some 7,none,.mkif 9 (.c (.g (.str [99,97,110,110,111,116,32,98,101,32,110,101,103,97,116,105,118,101])))⟩,⟨none,none,.row 0 []⟩]) (.skip)) <|
 .seq (.seq (rg [0,1] [m 8 1,m 9 0,⟨some 10,none,.cap (.t 9)⟩,m 11 0,ln 12 11,bt 13 .sub 10 12,bt 14 .sub 8 13,m 1 14]) <|
 .seq (rg [0,1,16] [m 15 1,bc 16 .gtr 15 0]) <|
 .cond [0] (.t 16) (rg [0] [m 17 0,m 18 0,⟨some 19,none,.cap (.t 18)⟩,⟨some 20,none,.slc 4 (.t 17) none (some (.t 19))⟩,m 21 1,⟨some 22,none,.appZ 4 48 [b0,s0,s0,i0] (.t 20) (.t 21)⟩,m 23 0,ln 24 23,⟨some 25,none,.slc 4 (.t 22) none (some (.t 24))⟩,m 0 25]) (.skip)) <|
 .seq (rg [4] [m 26 0,m 4 26]) <|
 .ret⟩
theorem c185:cFunc Tryz.prog 185 true (hintC F185.body)=some F185:=by kernel_rfl
def F186:IFunc:=⟨1,21,[.tmp 2],false,.seq (rg [1] [bx 1 0,mb 2 false]) <|
 .seq (rg [2] [fa 3 1 1,l1 4 3,bc 5 .geq 4 1,m 6 5,fG 7 6 true 1 1,lG 8 6 true 7,bcG 9 6 true .leq 8 4,aN 10 6 9,m 11 10,fG 12 11 true 2 1,lG 13 11 true 12,bcG 14 11 true .geq 13 1,aN 15 11 14,m 16 15,fG 17 16 true 2 1,lG 18 16 true 17,bcG 19 16 true .leq 18 3,aN 20 16 19,m 2 20]) <|
 .ret⟩
theorem c186:cFunc Tryz.prog 186 false (hintC F186.body)=some F186:=by kernel_rfl
def L187_0:IC :=
 .seq (rg [0,7,8,9,10] [bt 10 .lss 9 8]) <|
 .seq (.cond [0,7,8,9] (.t 10) (.skip) (.exit 0)) <|
 .seq (.block [0,7,8,9] 1 <|
 .seq (rg [0,6,7,8,9] [ia 11 5 7 9,la 12 5 11,⟨some 6,none,.alloc [zs,zi,zi,zi,zs]⟩,st 5 6 12]) <|
 .seq (rg [0,7,8,9,16] [m 13 0,la 14 5 6,k2 15 203 13 14,nt 16 15]) <|
 .cond [0,7,8,9] (.t 16) (.seq (rg [4] [mb 4 false]) <|
 .ret) (.skip)) <|
 rg [0,7,8,9] [bc 17 .add 9 1,m 9 17]
def F187:IFunc:=⟨2,18,[.tmp 4],false,.seq (rg [0,1] [mb 4 false]) <|
 .seq (.seq (rg [0,7,8,9] [m 7 1,ln 8 7,mi 9 0]) <|
 .block [] 0 <|
 .loop [0,7,8,9] [] L187_0) <|
 .seq (rg [4] [mb 4 true]) <|
 .ret⟩
theorem c187:cFunc Tryz.prog 187 false (hintC F187.body)=some F187:=by kernel_rfl
def F188:IFunc:=⟨1,4,[.tmp 2],true,.seq (rg [1] [bx 1 0,⟨some 2,none,.mov (.c (.g (.nfn)))⟩]) <|
 .seq (rg [2] [⟨some 3,none,.mkfn 204 [(.t 1)]⟩,m 2 3]) <|
 .ret⟩
theorem c188:cFunc Tryz.prog 188 true (hintC F188.body)=some F188:=by kernel_rfl
def L189_0:IC :=
 .seq (rg [1,2,7,10,11,12,13] [bt 13 .lss 12 11]) <|
 .seq (.cond [1,2,7,10,11,12] (.t 13) (.skip) (.exit 0)) <|
 .seq (.block [1,2,7,10,11,12] 1 <|
 .seq (rg [1,2,7,9,10,11,12] [ia 14 8 10 12,la 15 8 14,⟨some 9,none,.alloc [zi,zb,zs,zs,zi,zi,zi,zi]⟩,st 8 9 15]) <|
 .seq (rg [1,2,7,9,10,11,12,26] [fa 16 0 9,l1 17 16,m 18 2,bt 19 .geq 17 18,m 20 19,fG 21 20 true 2 9,fG 22 20 true 0 21,lG 23 20 true 22,mG 24 20 true 1,k2G 25 20 true 184 23 24,aN 26 20 25]) <|
 .cond [1,2,7,10,11,12] (.t 26) (rg [1,2,7,10,11,12] [m 27 7,la 28 8 9,⟨some 29,none,.bslice 8 1 [i0,b0,s0,s0,i0,i0,i0,i0] [(0,8,(.t 28))]⟩,ap 30 8 80 27 29,m 7 30]) (.skip)) <|
 rg [1,2,7,10,11,12] [bc 31 .add 12 1,m 12 31]
def F189:IFunc:=⟨3,33,[.tmp 6],false,.seq (rg [0,1,2] [nr 6 8]) <|
 .seq (rg [0,1,2,7] [nr 7 8]) <|
 .seq (.seq (rg [1,2,7,10,11,12] [m 10 0,ln 11 10,mi 12 0]) <|
 .block [7] 0 <|
 .loop [1,2,7,10,11,12] [] L189_0) <|
 .seq (rg [6] [m 32 7,m 6 32]) <|
 .ret⟩
theorem c189:cFunc Tryz.prog 189 false (hintC F189.body)=some F189:=by kernel_rfl
def F190:IFunc:=⟨2,18,[],false,.drw [] 0 <|tk (m 4 0) <|tk (m 5 0) <|tk (nc 6 5) <|tk (fa 7 2 6) <|tk (l1 8 7) <|tk (m 9 1) <|tk (m 10 0) <|tk (nc 11 10) <|tk (fa 12 1 11) <|tk (l1 13 12) <|tk (bt 14 .add 9 13) <|tk ⟨some 15,none,.mx (.t 8) [(.t 14)]⟩ <|.free <|tk (nc 16 4) <|tk (fa 17 2 16) <|.one (st 1 17 15) <|.leaf⟩
theorem c190:cFunc Tryz.prog 190 false (hintC F190.body)=some F190:=by kernel_rfl
def F191:IFunc:=⟨1,8,[.tmp 2],true,.seq (rg [0] [nr 2 3]) <|
 .seq (.seq (rg [0,4] [m 3 0,⟨some 4,none,.isnilS false (.t 3)⟩]) <|
 .cond [0] (.t 4) (.seq (rg [2] [nr 2 3]) <|
 .ret) (.skip)) <|
 .seq (rg [2] [⟨some 5,none,.mk0 3⟩,m 6 0,ap 7 3 24 5 6,m 2 7]) <|
 .ret⟩
theorem c191:cFunc Tryz.prog 191 true (hintC F191.body)=some F191:=by kernel_rfl
def F194:IFunc:=⟨2,27,[.tmp 4],true,.seq (rg [0,1] [nr 4 2]) <|
 .seq (.seq (rg [0,1,6] [m 5 1,bc 6 .lss 5 0]) <|
 .cond [0,1] (.t 6) (rg [0,1] [⟨some 7,none,.mkif 9 (.c (.g (.str [99,97,110,110,111,116,32,98,101,32,110,101,103,97,116,105,118,101])))⟩,⟨none,none,.row 0 []⟩]) (.skip)) <|
 .seq (.seq (rg [0,1] [m 8 1,m 9 0,⟨some 10,none,.cap (.t 9)⟩,m 11 0,ln 12 11,bt 13 .sub 10 12,bt 14 .sub 8 13,m 1 14]) <|
 .seq (rg [0,1,16] [m 15 1,bc 16 .gtr 15 0]) <|
 .cond [0] (.t 16) (rg [0] [m 17 0,m 18 0,⟨some 19,none,.cap (.t 18)⟩,⟨some 20,none,.slc 2 (.t 17) none (some (.t 19))⟩,m 21 1,⟨some 22,none,.appZ 2 16 [i0,i0] (.t 20) (.t 21)⟩,m 23 0,ln 24 23,⟨some 25,none,.slc 2 (.t 22) none (some (.t 24))⟩,m 0 25]) (.skip)) <|
 .seq (rg [4] [m 26 0,m 4 26]) <|
 .ret⟩
theorem c194:cFunc Tryz.prog 194 true (hintC F194.body)=some F194:=by kernel_rfl
def F195:IFunc:=⟨2,8,[.tmp 3],false,.seq (rg [1,2] [bx 2 0,mb 3 false]) <|
 .seq (rg [3] [fa 4 0 2,l1 5 4,l1 6 1,bt 7 .eql 5 6,m 3 7]) <|
 .ret⟩
theorem c195:cFunc Tryz.prog 195 false (hintC F195.body)=some F195:=by kernel_rfl
def F196:IFunc:=⟨2,27,[.tmp 4],true,.seq (rg [0,1] [nr 4 6]) <|
 .seq (.seq (rg [0,1,6] [m 5 1,bc 6 .lss 5 0]) <|
 .cond [0,1] (.t 6) (rg [0,1] [⟨some 7,none,.mkif 9 (.c (.g (.str [99,97,110,110,111,116,32,98,101,32,110,101,103,97,116,105,118,101])))⟩,⟨none,none,.row 0 []⟩]) (.skip)) <|
 .seq (.seq (rg [0,1] [m 8 1,m 9 0,⟨some 10,none,.cap (.t 9)⟩,m 11 0,ln 12 11,bt 13 .sub 10 12,bt 14 .sub 8 13,m 1 14]) <|
 .seq (rg [0,1,16] [m 15 1,bc 16 .gtr 15 0]) <|
 .cond [0] (.t 16) (rg [0] [m 17 0,m 18 0,⟨some 19,none,.cap (.t 18)⟩,⟨some 20,none,.slc 6 (.t 17) none (some (.t 19))⟩,m 21 1,⟨some 22,none,.appZ 6 64 [s0,s0,i0,i0,i0,i0] (.t 20) (.t 21)⟩,m 23 0,ln 24 23,⟨some 25,none,.slc 6 (.t 22) none (some (.t 24))⟩,m 0 25]) (.skip)) <|
 .seq (rg [4] [m 26 0,m 4 26]) <|
 .ret⟩
theorem c196:cFunc Tryz.prog 196 true (hintC F196.body)=some F196:=by kernel_rfl
def F198:IFunc:=⟨2,12,[.tmp 4],false,.seq (rg [0,1] [mb 4 false]) <|
 .seq (rg [4] [m 5 0,m 6 1,bt 7 .geq 5 6,m 8 7,mG 9 8 true 0,bcG 10 8 true .leq 9 1099511627775,aN 11 8 10,m 4 11]) <|
 .ret⟩
theorem c198:cFunc Tryz.prog 198 false (hintC F198.body)=some F198:=by kernel_rfl
def L199_0:IC :=
 .seq (rg [2,18,19,20,21] [bt 21 .lss 20 19]) <|
 .seq (.cond [2,18,19,20] (.t 21) (.skip) (.exit 0)) <|
 .seq (.block [2,18,19,20] 1 <|
 .seq (rg [2,8,18,19,20] [ia 22 1 18 20,l1 23 22,m 8 23]) <|
 .seq (rg [2,18,19,20,27] [m 24 2,m 25 8,⟨some 26,none,.call (.t 24) [(.t 25)]⟩,nt 27 26]) <|
 .cond [2,18,19,20] (.t 27) (.seq (rg [6] [mb 6 false]) <|
 .ret) (.skip)) <|
 rg [2,18,19,20] [bc 28 .add 20 1,m 20 28]
def F199:IFunc:=⟨3,29,[.tmp 6],false,.seq (rg [0,1,2] [mb 6 false]) <|
 .seq (.seq (rg [0,2,16] [m 9 0,⟨some 10,none,.bin .eql (.t 9) (.c (.g (.str [])))⟩,m 11 10,mG 12 11 false 0,⟨some 13,some (11,false),.lenS (.t 12)⟩,mG 14 11 false 1,btG 15 11 false .gtr 13 14,oR 16 11 15]) <|
 .cond [0,2] (.t 16) (.seq (rg [6] [mb 6 false]) <|
 .ret) (.skip)) <|
 .seq (.seq (rg [2,18,19,20] [m 17 0,⟨some 18,none,.convSB (.t 17)⟩,ln 19 18,mi 20 0]) <|
 .block [] 0 <|
 .loop [2,18,19,20] [] L199_0) <|
 .seq (rg [6] [mb 6 true]) <|
 .ret⟩
theorem c199:cFunc Tryz.prog 199 false (hintC F199.body)=some F199:=by kernel_rfl
def F200:IFunc:=⟨1,9,[.tmp 2],false,.seq (rg [0] [mb 2 false]) <|
 .seq (rg [2] [m 3 0,⟨some 4,none,.bin .gtr (.t 3) (.c (.g (.int .u8 32)))⟩,m 5 4,mG 6 5 true 0,⟨some 7,some (5,true),.bin .leq (.t 6) (.c (.g (.int .u8 126)))⟩,aN 8 5 7,m 2 8]) <|
 .ret⟩
theorem c200:cFunc Tryz.prog 200 false (hintC F200.body)=some F200:=by kernel_rfl
def F202:IFunc:=⟨2,18,[.tmp 4],false,.seq (rg [0,1] [mb 4 false]) <|
 .seq (rg [4] [m 5 0,⟨some 6,none,.lenS (.t 5)⟩,m 7 1,⟨some 8,none,.lenS (.t 7)⟩,bt 9 .geq 6 8,m 10 9,mG 11 10 true 0,mG 12 10 true 1,⟨some 13,some (10,true),.lenS (.t 12)⟩,⟨some 14,some (10,true),.slcS (.t 11) none (some (.t 13))⟩,mG 15 10 true 1,btG 16 10 true .eql 14 15,aN 17 10 16,m 4 17]) <|
 .ret⟩
theorem c202:cFunc Tryz.prog 202 false (hintC F202.body)=some F202:=by kernel_rfl
def F203:IFunc:=⟨2,32,[.tmp 4],false,.seq (rg [0,3] [bx 3 1,mb 4 false]) <|
 .seq (.seq (rg [0,3,10] [la 8 5 3,k1 9 186 8,nt 10 9]) <|
 .cond [0,3] (.t 10) (.seq (rg [4] [mb 4 false]) <|
 .ret) (.skip)) <|
 .seq (rg [3,5] [m 12 0,fa 13 0 3,l1 14 13,k2 15 169 12 14,m 11 15,ex 16 0 11,ex 17 1 11,⟨some 5,none,.alloc [zs,zs,zi,zi,zi,zi]⟩,st 6 5 16,m 6 17]) <|
 .seq (rg [3,5,7] [⟨some 18,none,.build [gi,gi,gi,gi] [(1,1,(.c (.g (.int .i64 0)))),(2,1,(.c (.g (.int .i64 (-1))))),(3,1,(.c (.g (.int .i64 1))))]⟩,⟨some 7,none,.alloc [zi,zi,zi,zi]⟩,st 4 7 18]) <|
 .seq (.drw [4] 0 <|tk (fa 20 1 3) <|tk (l1 21 20) <|tk (la 23 5 3) <|tk (la 24 6 5) <|tk ⟨some 25,none,.build [gs,gi,gi,gi,gs,gs,gs,gi,gi,gi,gi] [(0,5,(.t 23)),(5,6,(.t 24))]⟩ <|tk (fa 27 2 3) <|tk (l1 28 27) <|tk ⟨some 29,none,.iaddrA 4 1 (.t 7) (.t 28)⟩ <|tk (l1 30 29) <|.one (k0 19 218) <|tk ⟨some 22,none,.indexA false 5 1 (.t 19) (.t 21)⟩ <|.one ⟨some 26,none,.call (.t 22) [(.t 25)]⟩ <|tk (bt 31 .eql 26 30) <|.free <|tk (m 4 31) <|.leaf) <|
 .ret⟩
theorem c203:cFunc Tryz.prog 203 false (hintC F203.body)=some F203:=by kernel_rfl
def L204_0:IC :=
 .seq (.seq (rg [0,1,6] [l1 4 1,ln 5 4,bc 6 .gtr 5 0]) <|
 .cond [0,1] (.t 6) (.skip) (.exit 0)) <|
 .block [0,1] 1 <|
 .seq (rg [0,1,3] [l1 7 1,⟨some 8,none,.mkfn 205 [(.t 1)]⟩,k2 9 175 7 8,m 3 9]) <|
 .seq (.seq (rg [0,1,3,11] [m 10 3,bc 11 .lss 10 0]) <|
 .cond [0,1,3] (.t 11) (rg [0,1,3] [l1 12 1,ln 13 12,m 3 13]) (.skip)) <|
 .seq (.seq (.regy [0,1,3,19] [m 14 0,l1 15 1,m 16 3,⟨some 17,none,.slc 8 (.t 15) none (some (.t 16))⟩,⟨some 18,none,.ycall (.t 14) [(.t 17)]⟩,nt 19 18]) <|
 .cond [0,1,3] (.t 19) (.ret) (.skip)) <|
 rg [0,1] [l1 20 1,m 21 3,⟨some 22,none,.slc 8 (.t 20) (some (.t 21)) none⟩,st 1 1 22]
def F204:IFunc:=⟨2,23,[],false,.block [] 0 <|
 .loop [0,1] [] L204_0⟩
theorem c204:cFunc Tryz.prog 204 false (hintC F204.body)=some F204:=by kernel_rfl
def F205:IFunc:=⟨2,11,[.tmp 3],false,.seq (rg [1,2] [bx 2 0,mb 3 false]) <|
 .seq (.drw [3] 0 <|tk (fa 4 0 2) <|tk (l1 5 4) <|tk (l1 6 1) <|tk ⟨some 7,none,.iaddr 8 (.t 6) (.c (.g (.int .i64 0)))⟩ <|tk (fa 8 0 7) <|tk (l1 9 8) <|tk (bt 10 .neq 5 9) <|.free <|tk (m 3 10) <|.leaf) <|
 .ret⟩
theorem c205:cFunc Tryz.prog 205 false (hintC F205.body)=some F205:=by kernel_rfl
def F218:IFunc:=⟨0,2,[.cell 0 true 5],true,.seq (rg [0] [⟨some 0,none,.alloc [.z (.nfn),.z (.nfn),.z (.nfn),.z (.nfn),.z (.nfn)]⟩]) <|
 .seq (rg [0] [⟨some 1,none,.build [.g (.nfn),.g (.nfn),.g (.nfn),.g (.nfn),.g (.nfn)] [(1,1,(.c (.g (.fn 225)))),(2,1,(.c (.g (.fn 226)))),(3,1,(.c (.g (.fn 227)))),(4,1,(.c (.g (.fn 228))))]⟩,st 5 0 1]) <|
 .ret⟩
theorem c218:cFunc Tryz.prog 218 true (hintC F218.body)=some F218:=by kernel_rfl
def F224:IFunc:=⟨1,6,[.tmp 2],false,.seq (rg [0] [mb 2 false]) <|
 .seq (rg [2] [m 3 0,m 4 0,bt 5 .neq 3 4,m 2 5]) <|
 .ret⟩
theorem c224:cFunc Tryz.prog 224 false (hintC F224.body)=some F224:=by kernel_rfl
def F225:IFunc:=⟨1,10,[.tmp 2],false,.seq (rg [1] [bx 1 0,mi 2 0]) <|
 .seq (rg [2] [fa 3 5 1,fa 4 2 3,l1 5 4,fa 6 0 1,fa 7 3 6,l1 8 7,k2 9 230 5 8,m 2 9]) <|
 .ret⟩
theorem c225:cFunc Tryz.prog 225 false (hintC F225.body)=some F225:=by kernel_rfl
def F226:IFunc:=⟨1,10,[.tmp 2],false,.seq (rg [1] [bx 1 0,mi 2 0]) <|
 .seq (rg [2] [fa 3 5 1,fa 4 3 3,l1 5 4,fa 6 0 1,fa 7 3 6,l1 8 7,k2 9 230 5 8,m 2 9]) <|
 .ret⟩
theorem c226:cFunc Tryz.prog 226 false (hintC F226.body)=some F226:=by kernel_rfl
def F227:IFunc:=⟨1,10,[.tmp 2],false,.seq (rg [1] [bx 1 0,mi 2 0]) <|
 .seq (rg [2] [fa 3 5 1,fa 4 4 3,l1 5 4,fa 6 0 1,fa 7 3 6,l1 8 7,k2 9 230 5 8,m 2 9]) <|
 .ret⟩
theorem c227:cFunc Tryz.prog 227 false (hintC F227.body)=some F227:=by kernel_rfl
def F228:IFunc:=⟨1,10,[.tmp 2],false,.seq (rg [1] [bx 1 0,mi 2 0]) <|
 .seq (rg [2] [fa 3 5 1,fa 4 1 3,l1 5 4,fa 6 0 1,fa 7 4 6,l1 8 7,k2 9 231 5 8,m 2 9]) <|
 .ret⟩
theorem c228:cFunc Tryz.prog 228 false (hintC F228.body)=some F228:=by kernel_rfl
def F230:IFunc:=⟨2,20,[.tmp 4],false,.seq (rg [0,1] [mi 4 0]) <|
 .seq (rg [0,1,5] [m 7 0,k1 8 224 7,m 5 8]) <|
 .seq (rg [0,1,5,6] [m 9 1,k1 10 224 9,m 6 10]) <|
 .seq (.seq (rg [0,1,6,11] [m 11 5]) <|
 .cond [0,1,6] (.t 11) (.seq (.seq (rg [12] [m 12 6]) <|
 .cond [] (.t 12) (.seq (rg [4] [mi 4 0]) <|
 .ret) (.skip)) <|
 .seq (rg [4] [mi 4 (-1)]) <|
 .ret) (.skip)) <|
 .seq (.seq (rg [0,1,13] [m 13 6]) <|
 .cond [0,1] (.t 13) (.seq (rg [4] [mi 4 1]) <|
 .ret) (.skip)) <|
 .seq (.seq (rg [0,1,16] [m 14 0,m 15 1,bt 16 .lss 14 15]) <|
 .cond [0,1] (.t 16) (.seq (rg [4] [mi 4 (-1)]) <|
 .ret) (.skip)) <|
 .seq (.seq (rg [19] [m 17 0,m 18 1,bt 19 .gtr 17 18]) <|
 .cond [] (.t 19) (.seq (rg [4] [mi 4 1]) <|
 .ret) (.skip)) <|
 .seq (rg [4] [mi 4 0]) <|
 .ret⟩
theorem c230:cFunc Tryz.prog 230 false (hintC F230.body)=some F230:=by kernel_rfl
def F231:IFunc:=⟨2,20,[.tmp 4],false,.seq (rg [0,1] [mi 4 0]) <|
 .seq (rg [0,1,5] [m 7 0,k1 8 232 7,m 5 8]) <|
 .seq (rg [0,1,5,6] [m 9 1,k1 10 232 9,m 6 10]) <|
 .seq (.seq (rg [0,1,6,11] [m 11 5]) <|
 .cond [0,1,6] (.t 11) (.seq (.seq (rg [12] [m 12 6]) <|
 .cond [] (.t 12) (.seq (rg [4] [mi 4 0]) <|
 .ret) (.skip)) <|
 .seq (rg [4] [mi 4 (-1)]) <|
 .ret) (.skip)) <|
 .seq (.seq (rg [0,1,13] [m 13 6]) <|
 .cond [0,1] (.t 13) (.seq (rg [4] [mi 4 1]) <|
 .ret) (.skip)) <|
 .seq (.seq (rg [0,1,16] [m 14 0,m 15 1,bt 16 .lss 14 15]) <|
 .cond [0,1] (.t 16) (.seq (rg [4] [mi 4 (-1)]) <|
 .ret) (.skip)) <|
 .seq (.seq (rg [19] [m 17 0,m 18 1,bt 19 .gtr 17 18]) <|
 .cond [] (.t 19) (.seq (rg [4] [mi 4 1]) <|
 .ret) (.skip)) <|
 .seq (rg [4] [mi 4 0]) <|
 .ret⟩
theorem c231:cFunc Tryz.prog 231 false (hintC F231.body)=some F231:=by kernel_rfl
def F232:IFunc:=⟨1,6,[.tmp 2],false,.seq (rg [0] [mb 2 false]) <|
 .seq (rg [2] [m 3 0,m 4 0,bt 5 .neq 3 4,m 2 5]) <|
 .ret⟩
theorem c232:cFunc Tryz.prog 232 false (hintC F232.body)=some F232:=by kernel_rfl
end
end Go.Proofs.YtndfdnlbljhlgaaGreat
