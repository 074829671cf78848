/- The compiled functions of the seat, part IRg2. No conditions. -/
import Derived.Test.YtndfdnlbljhlgaaGreatAMJ3
import Derived.Test.YtndfdnlbljhlgaaGreatProg
import Derived.KernelRfl
namespace Go.Proofs.YtndfdnlbljhlgaaGreat
open Go Go.AM Go.Proofs Go.IR
noncomputable section
def F47:Zg:=⟨4,68,[.cell 8 true 2,.tmp 9],false,sr [2,4,5,7,8] [bx 4 0,bx 5 1,bx 7 3,al 8 [.s 11,.s 2],mi 9 0]<|
sr [2,4,5,7,8,11,12] [la 16 2 4,l1 17 5,m 18 2,k3 19 45 16 17 18,m 15 19,ex 20 0 15,ex 21 1 15,ex 22 2 15,al 10 zR,st 9 10 20,m 11 21,m 12 22]<|
.seq (.block [2,4,5,7,8] 0<|
sr [2,4,5,7,8,12,23] [m 24 11,m 23 24]<|
cd [2,4,5,7,8] 23 (sr [8,9] [la 25 2 4,st 2 8 25,mi 9 11]<|
.ret) (sr [2,4,5,7,8,12,26] [m 27 12,bc 28 .neq 27 0,m 26 28]<|
cd [2,4,5,7,8] 26 (sr [8,9] [la 29 2 4,m 30 12,st 2 8 29,m 9 30]<|
.ret) no))<|
sr [4,5,8] [fa 31 0 4,l1 32 31,l1 33 5,m 34 2,la 35 9 7,⟨some 36,none,.build [gi,gi,gi,gi,gi,gi,gi,gi,gb,gn,gn] [(0,1,(.t 33)),(1,1,(.t 34)),(2,9,(.t 35))]⟩,⟨some 37,none,.bslice 11 1 [i0,i0,i0,i0,i0,i0,i0,i0,b0,.nsl,.nsl] [(0,11,(.t 36))]⟩,⟨some 38,none,.bslice 1 2 [.nsl] [(0,1,(.t 32)),(1,1,(.t 37))]⟩,k1 39 107 38,fa 40 0 4,st 1 40 39]<|
sr [4,5,8,13] [la 41 2 4,l1 42 5,k2 43 108 41 42,al 13 [.s 1],st 1 13 43]<|
.seq (sr [4,5,8,13,46] [l1 44 13,ln 45 44,bc 46 .leq 45 4]<|
cd [4,5,8,13] 46 (sr [8,9] [la 47 2 4,st 2 8 47,mi 9 0]<|
.ret) no)<|
sr [4,5,8,13,14] [fa 48 0 4,l1 49 48,⟨some 50,none,.mkfn 109 [(.t 5),(.t 13)]⟩,k2 51 94 49 50,m 14 51]<|
sr [4,5,8,13] [fa 52 0 4,l1 53 52,m 54 14,m 55 14,bc 56 .add 55 1,k3 57 110 53 54 56,fa 58 0 4,st 1 58 57]<|
.seq (.drw [4,8] 0<|tk (fa 59 1 4)<|tk (l1 60 59)<|tk (l1 61 5)<|tk (l1 62 13)<|tk ⟨some 63,none,.iaddr 1 (.t 62) (.c (.g (.int .i64 0)))⟩<|tk (l1 64 63)<|.one (k3 65 111 60 61 64)<|.free<|tk (fa 66 1 4)<|.one (st 1 66 65)<|.leaf)<|
sr [8,9] [la 67 2 4,st 2 8 67,mi 9 0]<|
.ret⟩
theorem c47:cF Tryz.prog 47 F47=some F47:=by kernel_rfl
def F48:Zg:=⟨0,2,[.cell 0 true 4],false,sr [0] [al 0 [zi,zi,.s 6,.s 8]]<|
sr [0] [⟨some 1,none,.build [gi,gi,gn,gn] []⟩,st 4 0 1]<|
.ret⟩
theorem c48:cF Tryz.prog 48 F48=some F48:=by kernel_rfl
def F49:Zg:=⟨1,5,[.cell 2 true 5],false,sr [0,2] [al 2 [zs,zi,zi,zi,zs]]<|
sr [2] [m 3 0,⟨some 4,none,.build [gs,gi,gi,gi,gs] [(0,1,(.t 3)),(1,1,(.c (.g (.int .i64 1)))),(2,1,(.c (.g (.int .i64 1))))]⟩,st 5 2 4]<|
.ret⟩
theorem c49:cF Tryz.prog 49 F49=some F49:=by kernel_rfl
def Zjz:IC :=
 sr [0,2,11,12,13,14] [bt 14 .lss 13 12]<|
.seq (cd [0,2,11,12,13] 14 no (.exit 0))<|
.seq (.block [0,2,11,12,13] 1<|
sr [0,2,8,11,12,13] [ia 15 8 11 13,la 16 8 15,al 8 [zi,zb,zs,zs,zi,zi,zi,zi],st 8 8 16]<|
.block [0,2,11,12,13] 2<|
sr [0,2,8,11,12,13,21] [fa 22 0 8,l1 23 22,m 24 2,bt 25 .gtr 23 24,m 21 25]<|
cd [0,2,11,12,13] 21 no (sr [0,2,8,11,12,13,26] [fa 27 1 8,l1 28 27,m 26 28]<|
cd [0,2,11,12,13] 26 (rg [0,2,11,12,13] [m 29 0,fa 30 2 8,fa 31 0 30,l1 32 31,k2 33 113 29 32,m 0 33]) (rg [0,2,11,12,13] [m 17 0,fa 18 2 8,la 19 6 18,k2 20 114 17 19,m 0 20])))<|
rg [0,2,11,12,13] [bc 34 .add 13 1,m 13 34]
def F50:Zg:=⟨3,36,[.tmp 6],false,sr [0,1,2] [nr 6 6]<|
sr [0,1,2] [m 9 0,k1 10 112 9,m 0 10]<|
.seq (sr [0,2,11,12,13] [m 11 1,ln 12 11,mi 13 0]<|
.block [0] 0<|
.loop [0,2,11,12,13] [] Zjz)<|
sr [6] [m 35 0,m 6 35]<|
.ret⟩
theorem c50:cF Tryz.prog 50 F50=some F50:=by kernel_rfl
def Zj0:IC :=
 .seq (sr [1,2,3,6,9,15] [m 11 9,fa 12 0 3,l1 13 12,ln 14 13,bt 15 .lss 11 14]<|
cd [1,2,3,6,9] 15 no (.exit 0))<|
.seq (.block [1,2,3,6,9] 1<|
sr [1,2,3,6,9,35] [fa 18 0 3,l1 19 18,m 20 9,ia 21 11 19 20,fa 22 0 21,l1 23 22,m 24 1,bt 25 .eql 23 24,m 26 25,fG 27 26 true 0 3,lG 28 26 true 27,mG 29 26 true 9,iG 30 26 true 11 28 29,fG 31 26 true 1 30,lG 32 26 true 31,mG 33 26 true 2,btG 34 26 true .eql 32 33,aN 35 26 34]<|
cd [1,2,3,6,9] 35 (sr [6,7,8] [fa 36 0 3,l1 37 36,m 38 9,ia 39 11 37 38,fa 40 2 39,la 41 9 40,st 9 6 41,mb 7 true,mi 8 0]<|
.ret) no)<|
rg [1,2,3,6,9] [m 16 9,bc 17 .add 16 1,m 9 17]
def F51:Zg:=⟨3,64,[.cell 6 true 9,.tmp 7,.tmp 8],false,sr [1,2,3,6] [bx 3 0,al 6 zR,mb 7 false,mi 8 0]<|
.seq (sr [1,2,3,6,9] [mi 9 0]<|
.block [1,2,3,6] 0<|
.loop [1,2,3,6,9] [] Zj0)<|
.seq (sr [1,3,6,46] [m 42 2,la 43 2 3,m 44 1,k2 45 82 43 44,bt 46 .leq 42 45]<|
cd [1,3,6] 46 (sr [6,7,8] [⟨some 47,none,.build gR []⟩,st 9 6 47,mb 7 false,mi 8 7]<|
.ret) no)<|
sr [1,6,10] [la 48 2 3,k1 49 85 48,m 10 49]<|
.seq (sr [6,61] [m 50 10,ln 51 50,bc 52 .geq 51 8,m 53 52,mG 54 53 true 10,mG 55 53 true 1,⟨some 56,some (53,true),.call (.c (.g (.fn 115))) [(.t 54),(.t 55),(.c (.g (.bool true)))]⟩,lnG 57 53 true 56,mG 58 53 true 10,lnG 59 53 true 58,btG 60 53 true .gtr 57 59,aN 61 53 60]<|
cd [6] 61 (sr [6,7,8] [⟨some 62,none,.build gR []⟩,st 9 6 62,mb 7 false,mi 8 4]<|
.ret) no)<|
sr [6,7,8] [⟨some 63,none,.build gR []⟩,st 9 6 63,mb 7 false,mi 8 0]<|
.ret⟩
theorem c51:cF Tryz.prog 51 F51=some F51:=by kernel_rfl
def F52:Zg:=⟨2,196,[.cell 4 true 9,.cell 5 true 9],false,sr [2,3,4,5] [bx 2 0,bx 3 1,al 4 zS,al 5 zR]<|
sr [2,3,4,5,6] [fa 27 1 3,l1 28 27,fa 29 2 3,l1 30 29,⟨some 31,none,.build gR [(1,1,(.t 28)),(2,1,(.t 30))]⟩,al 6 zR,st 9 6 31]<|
sr [2,3,4,5,6,7] [la 32 9 2,al 7 zS,st 9 7 32]<|
.seq (sr [2,3,4,5,6,7,34] [fa 33 0 3,l1 34 33]<|
.block [4,5,6,7] 0<|
sr [2,3,4,5,6,7,34,36] [bc 37 .eql 34 1,m 36 37]<|
cd [4,5,6,7] 36 (sr [2,3,4,5,6,7,8,9] [fa 39 0 2,la 40 4 39,fa 41 7 3,l1 42 41,k2 43 116 40 42,m 38 43,ex 44 0 38,ex 45 1 38,m 8 44,m 9 45]<|
sr [2,3,4,5,6,7,8] [m 46 9,fa 47 0 6,st 1 47 46]<|
sr [2,4,5,6,7] [m 48 8,fa 49 4 3,l1 50 49,k2 51 117 48 50,fa 52 7 6,st 1 52 51]<|
rg [4,5,6,7] [fa 53 0 2,fa 54 0 53,l1 55 54,fa 56 3 6,st 1 56 55]) (sr [2,3,4,5,6,7,34,57] [bc 58 .eql 34 2,m 57 58]<|
cd [4,5,6,7] 57 (.seq (sr [2,3,4,5,6,7,74] [fa 59 4 2,la 60 2 59,fa 61 10 3,fa 62 1 61,l1 63 62,k2 64 118 60 63,nt 65 64,m 66 65,fG 67 66 false 4 2,laG 68 66 false 2 67,fG 69 66 false 10 3,fG 70 66 false 2 69,lG 71 66 false 70,k2G 72 66 false 118 68 71,nG 73 66 false 72,oR 74 66 73]<|
cd [2,3,4,5,6,7] 74 (sr [4,5,6,7] [fa 75 0 6,⟨none,none,.store 1 (.t 75) (.c (.g (.int .i64 6)))⟩]<|
.exit 0) no)<|
sr [4,5,6,7,10,11,13] [fa 77 0 2,la 78 4 77,fa 79 10 3,la 80 3 79,k2 81 119 78 80,m 76 81,ex 82 0 76,ex 83 1 76,ex 84 2 76,ex 85 3 76,al 10 [zi,zi,.s 6,.s 8],st 4 10 82,m 11 83,m 12 84,m 13 85]<|
sr [4,5,6,7,10,11,13] [la 86 4 10,fa 87 0 7,st 4 87 86]<|
sr [4,5,6,7,10,13] [m 88 11,fa 89 6 6,st 1 89 88]<|
sr [4,5,6,7,10] [m 90 13,fa 91 0 6,st 1 91 90]<|
rg [4,5,6,7] [fa 92 0 10,l1 93 92,fa 94 3 6,st 1 94 93]) (sr [2,3,4,5,6,7,34,95] [bc 96 .eql 34 3,m 95 96]<|
cd [4,5,6,7] 95 (sr [4,5,6,7,14,15,16] [fa 98 0 2,la 99 4 98,fa 100 4 3,l1 101 100,fa 102 7 3,l1 103 102,⟨some 104,none,.call (.c (.g (.fn 120))) [(.t 99),(.t 101),(.t 103),(.c (.g (.int .i64 30)))]⟩,m 97 104,ex 105 0 97,ex 106 1 97,ex 107 2 97,m 14 105,m 15 106,m 16 107]<|
sr [4,5,6,7,15,16] [m 108 14,fa 109 8 6,st 1 109 108]<|
sr [4,5,6,7,16] [m 110 15,fa 111 3 6,st 1 111 110]<|
rg [4,5,6,7] [m 112 16,fa 113 0 6,st 1 113 112]) (sr [2,3,4,5,6,7,34,114] [bc 115 .eql 34 4,m 114 115]<|
cd [4,5,6,7] 114 (sr [3,4,5,6,7,17,18,19] [fa 117 4 2,la 118 2 117,fa 119 8 3,l1 120 119,fa 121 8 2,l1 122 121,k3 123 121 118 120 122,m 116 123,ex 124 0 116,ex 125 1 116,ex 126 2 116,al 17 [zi,.s 3],st 2 17 124,m 18 125,m 19 126]<|
sr [3,4,5,6,7,18,19] [la 127 2 17,fa 128 4 7,st 2 128 127]<|
sr [3,4,5,6,7,19] [m 129 18,fa 130 4 6,st 1 130 129]<|
sr [4,5,6,7,19] [fa 131 8 3,l1 132 131,fa 133 5 6,st 1 133 132]<|
rg [4,5,6,7] [m 134 19,fa 135 0 6,st 1 135 134]) (sr [2,3,4,5,6,7,34,136] [bc 137 .eql 34 5,m 136 137]<|
cd [4,5,6,7] 136 (sr [3,4,5,6,7,20,21,22] [fa 139 4 2,la 140 2 139,fa 141 6 3,l1 142 141,fa 143 8 2,l1 144 143,k3 145 122 140 142 144,m 138 145,ex 146 0 138,ex 147 1 138,ex 148 2 138,al 20 [zi,.s 3],st 2 20 146,m 21 147,m 22 148]<|
sr [3,4,5,6,7,21,22] [la 149 2 20,fa 150 4 7,st 2 150 149]<|
sr [4,5,6,7,21,22] [fa 151 6 3,l1 152 151,fa 153 4 6,st 1 153 152]<|
sr [4,5,6,7,22] [m 154 21,fa 155 5 6,st 1 155 154]<|
rg [4,5,6,7] [m 156 22,fa 157 0 6,st 1 157 156]) (sr [2,3,4,5,6,7,34,158] [bc 159 .eql 34 6,m 158 159]<|
cd [4,5,6,7] 158 (sr [3,4,5,6,7,23,24] [la 161 9 2,fa 162 6 3,l1 163 162,k2 164 26 161 163,m 160 164,ex 165 0 160,ex 166 1 160,al 23 zS,st 9 23 165,m 24 166]<|
sr [3,4,5,6,7,23,24] [la 167 9 23,st 9 7 167]<|
sr [4,5,6,7,23,24] [fa 168 6 3,l1 169 168,fa 170 4 6,st 1 170 169]<|
sr [4,5,6,7,24] [fa 171 0 23,fa 172 0 171,l1 173 172,fa 174 3 6,st 1 174 173]<|
rg [4,5,6,7] [m 175 24,fa 176 0 6,st 1 176 175]) (sr [2,3,4,5,6,7,177] [bc 178 .eql 34 7,m 177 178]<|
cd [4,5,6,7] 177 (sr [4,5,6,7,25,26] [fa 180 0 2,la 181 4 180,fa 182 7 3,l1 183 182,k2 184 69 181 183,m 179 184,ex 185 0 179,ex 186 1 179,al 25 [zi,zi,.s 6,.s 8],st 4 25 185,m 26 186]<|
sr [4,5,6,7,25,26] [la 187 4 25,fa 188 0 7,st 4 188 187]<|
sr [4,5,6,7,26] [fa 189 0 25,l1 190 189,fa 191 3 6,st 1 191 190]<|
rg [4,5,6,7] [m 192 26,fa 193 0 6,st 1 193 192]) (rg [4,5,6,7] [fa 35 0 6,⟨none,none,.store 1 (.t 35) (.c (.g (.int .i64 1)))⟩]))))))))<|
.seq (.drw [4,5] 0<|tk (la 194 9 7)<|tk (la 195 9 6)<|.one (st 9 4 194)<|.free<|.one (st 9 5 195)<|.leaf)<|
.ret⟩
theorem c52:cF Tryz.prog 52 F52=some F52:=by kernel_rfl
def Zdd:IC :=
 .seq (sr [1,8,13,14,15,16,17,66] [m 62 17,fa 63 0 13,l1 64 63,ln 65 64,bt 66 .lss 62 65]<|
cd [1,8,13,14,15,16,17] 66 no (.exit 0))<|
.seq (.block [1,8,13,14,15,16,17] 1<|
.seq (.seq (.drw [1,8,13,14,15,16,17,92] 0<|tk (m 69 16)<|tk (nt 70 69)<|tk (m 71 70)<|tk (fG 72 71 true 0 13)<|tk (lG 73 71 true 72)<|tk (mG 74 71 true 17)<|tk (iG 75 71 true 11 73 74)<|tk (fG 76 71 true 0 75)<|tk (lG 77 71 true 76)<|tk (mG 78 71 true 1)<|tk (btG 79 71 true .eql 77 78)<|tk (aN 80 71 79)<|tk (m 81 80)<|tk (fG 82 81 true 0 13)<|tk (lG 83 81 true 82)<|tk (mG 84 81 true 17)<|tk (iG 85 81 true 11 83 84)<|tk (fG 86 81 true 1 85)<|tk (lG 87 81 true 86)<|tk (mG 88 81 true 14)<|tk ⟨some 89,some (81,true),.iaddr 1 (.t 88) (.c (.g (.int .i64 0)))⟩<|tk (lG 90 81 true 89)<|tk (btG 91 81 true .eql 87 90)<|tk (aN 92 81 91)<|.leaf)<|
cd [1,8,13,14,15,16,17] 92 (sr [1,8,13,14,15,16,17] [mb 16 true]<|
.exit 1) no)<|
rg [1,8,13,14,15,16,17] [m 93 15,fa 94 0 13,l1 95 94,m 96 17,ia 97 11 95 96,la 98 11 97,⟨some 99,none,.bslice 11 1 [i0,i0,i0,i0,i0,i0,i0,i0,b0,.nsl,.nsl] [(0,11,(.t 98))]⟩,ap 100 11 120 93 99,m 15 100])<|
rg [1,8,13,14,15,16,17] [m 67 17,bc 68 .add 67 1,m 17 68]
def Fs:IC :=
 .seq (sr [1,8,13,14,18,107] [m 103 18,fa 104 1 13,l1 105 104,ln 106 105,bt 107 .lss 103 106]<|
cd [1,8,13,14,18] 107 no (.exit 2))<|
.seq (.block [1,8,13,14,18] 3<|
sr [1,8,13,14,18,117] [fa 110 1 13,l1 111 110,m 112 18,ia 113 2 111 112,fa 114 0 113,l1 115 114,m 116 1,bt 117 .eql 115 116]<|
cd [1,8,13,14,18] 117 (.seq (.drw [8,13] 0<|tk (fa 118 1 13)<|tk (l1 119 118)<|tk (m 120 18)<|tk (fa 121 1 13)<|tk (l1 122 121)<|tk (m 123 18)<|tk (ia 124 2 122 123)<|tk (fa 125 1 124)<|tk (l1 126 125)<|tk (m 127 14)<|tk ⟨some 128,none,.iaddr 1 (.t 127) (.c (.g (.int .i64 0)))⟩<|tk (l1 129 128)<|tk ⟨some 130,none,.mx (.t 126) [(.t 129)]⟩<|.free<|tk (ia 131 2 119 120)<|tk (fa 132 1 131)<|.one (st 1 132 130)<|.leaf)<|
sr [8,9] [la 133 2 13,st 2 8 133,mi 9 0]<|
.ret) no)<|
rg [1,8,13,14,18] [m 108 18,bc 109 .add 108 1,m 18 109]
def F53:Zg:=⟨4,145,[.cell 8 true 2,.tmp 9],false,sr [1,2,4,7,8] [bx 4 0,bx 7 3,al 8 [.s 11,.s 2],mi 9 0]<|
sr [1,2,4,7,8,11,12] [la 20 2 4,m 21 1,m 22 2,k3 23 51 20 21 22,m 19 23,ex 24 0 19,ex 25 1 19,ex 26 2 19,al 10 zR,st 9 10 24,m 11 25,m 12 26]<|
.seq (sr [1,2,4,7,8,12,27] [m 27 11]<|
cd [1,2,4,7,8,12] 27 (sr [8,9] [la 28 2 4,st 2 8 28,mi 9 11]<|
.ret) no)<|
.seq (sr [1,2,4,7,8,12,30] [m 29 12,bc 30 .neq 29 0]<|
cd [1,2,4,7,8] 30 (sr [8,9] [la 31 2 4,m 32 12,st 2 8 31,m 9 32]<|
.ret) no)<|
sr [1,2,4,7,8,13] [⟨some 33,none,.build [gn,gn] []⟩,al 13 [.s 11,.s 2],st 2 13 33]<|
sr [1,2,4,7,8,13] [fa 34 0 13,l1 35 34,fa 36 0 4,l1 37 36,ap 38 11 120 35 37,fa 39 0 13,st 1 39 38]<|
sr [1,4,8,13] [fa 40 0 13,l1 41 40,m 42 1,m 43 2,la 44 9 7,⟨some 45,none,.build [gi,gi,gi,gi,gi,gi,gi,gi,gb,gn,gn] [(0,1,(.t 42)),(1,1,(.t 43)),(2,9,(.t 44))]⟩,⟨some 46,none,.bslice 11 1 [i0,i0,i0,i0,i0,i0,i0,i0,b0,.nsl,.nsl] [(0,11,(.t 45))]⟩,ap 47 11 120 41 46,fa 48 0 13,st 1 48 47]<|
sr [1,8,13] [fa 49 1 13,l1 50 49,fa 51 1 4,l1 52 51,ap 53 2 16 50 52,fa 54 1 13,st 1 54 53]<|
sr [1,8,13,14] [la 55 2 13,m 56 1,k2 57 84 55 56,m 14 57]<|
.seq (sr [1,8,13,14,60] [m 58 14,ln 59 58,bc 60 .leq 59 4]<|
cd [1,8,13,14] 60 (sr [8,9] [la 61 2 13,st 2 8 61,mi 9 0]<|
.ret) no)<|
sr [1,8,13,14,15] [nr 15 11]<|
sr [1,8,13,14,15,16] [mb 16 false]<|
.seq (sr [1,8,13,14,15,16,17] [mi 17 0]<|
.block [1,8,13,14,15] 0<|
.loop [1,8,13,14,15,16,17] [] Zdd)<|
sr [1,8,13,14] [m 101 15,fa 102 0 13,st 1 102 101]<|
.seq (sr [1,8,13,14,18] [mi 18 0]<|
.block [1,8,13,14] 2<|
.loop [1,8,13,14,18] [] Fs)<|
.seq (.drw [8,13] 0<|tk (fa 134 1 13)<|tk (l1 135 134)<|tk (m 136 1)<|tk (m 137 14)<|tk ⟨some 138,none,.iaddr 1 (.t 137) (.c (.g (.int .i64 0)))⟩<|tk (l1 139 138)<|tk ⟨some 140,none,.build [gi,gi] [(0,1,(.t 136)),(1,1,(.t 139))]⟩<|.one ⟨some 141,none,.bslice 2 1 [i0,i0] [(0,2,(.t 140))]⟩<|.one (ap 142 2 16 135 141)<|.free<|tk (fa 143 1 13)<|.one (st 1 143 142)<|.leaf)<|
sr [8,9] [la 144 2 13,st 2 8 144,mi 9 0]<|
.ret⟩
theorem c53:cF Tryz.prog 53 F53=some F53:=by kernel_rfl
def Zj1:IC :=
 .seq (sr [0,1,5,14] [m 11 5,m 12 0,ln 13 12,bt 14 .lss 11 13]<|
cd [0,1,5] 14 no (.exit 0))<|
.seq (.block [0,1,5] 1<|
.seq (.drw [0,1,5,25] 0<|tk (m 17 0)<|tk (m 18 5)<|tk (ia 19 6 17 18)<|tk (la 20 6 19)<|tk (m 21 1)<|tk (m 22 5)<|tk (ia 23 6 21 22)<|tk (la 24 6 23)<|.free<|tk ⟨some 25,none,.eqs true true [.s,.s,.i,.i,.i,.i] (.t 20) (.t 24)⟩<|.leaf)<|
cd [0,1,5] 25 (sr [4] [mb 4 false]<|
.ret) no)<|
rg [0,1,5] [m 15 5,bc 16 .add 15 1,m 5 16]
def F54:Zg:=⟨2,26,[.tmp 4],false,sr [0,1] [mb 4 false]<|
.seq (sr [0,1,10] [m 6 0,ln 7 6,m 8 1,ln 9 8,bt 10 .neq 7 9]<|
cd [0,1] 10 (sr [4] [mb 4 false]<|
.ret) no)<|
.seq (sr [0,1,5] [mi 5 0]<|
.block [] 0<|
.loop [0,1,5] [] Zj1)<|
sr [4] [mb 4 true]<|
.ret⟩
theorem c54:cF Tryz.prog 54 F54=some F54:=by kernel_rfl
def Zj2:IC :=
 .seq (sr [0,1,5,14] [m 11 5,m 12 0,ln 13 12,bt 14 .lss 11 13]<|
cd [0,1,5] 14 no (.exit 0))<|
.seq (.block [0,1,5] 1<|
.seq (.drw [0,1,5,25] 0<|tk (m 17 0)<|tk (m 18 5)<|tk (ia 19 8 17 18)<|tk (la 20 8 19)<|tk (m 21 1)<|tk (m 22 5)<|tk (ia 23 8 21 22)<|tk (la 24 8 23)<|.free<|tk ⟨some 25,none,.eqs true true [.i,.b,.s,.s,.i,.i,.i,.i] (.t 20) (.t 24)⟩<|.leaf)<|
cd [0,1,5] 25 (sr [4] [mb 4 false]<|
.ret) no)<|
rg [0,1,5] [m 15 5,bc 16 .add 15 1,m 5 16]
def F55:Zg:=⟨2,26,[.tmp 4],false,sr [0,1] [mb 4 false]<|
.seq (sr [0,1,10] [m 6 0,ln 7 6,m 8 1,ln 9 8,bt 10 .neq 7 9]<|
cd [0,1] 10 (sr [4] [mb 4 false]<|
.ret) no)<|
.seq (sr [0,1,5] [mi 5 0]<|
.block [] 0<|
.loop [0,1,5] [] Zj2)<|
sr [4] [mb 4 true]<|
.ret⟩
theorem c55:cF Tryz.prog 55 F55=some F55:=by kernel_rfl
def Zj3:IC :=
 sr [1,3,4,50,51,52,53] [bt 53 .lss 52 51]<|
.seq (cd [1,3,4,50,51,52] 53 no (.exit 0))<|
.seq (.block [1,3,4,50,51,52] 1<|
sr [1,3,4,6,50,51,52] [ia 54 8 50 52,la 55 8 54,al 6 [zi,zb,zs,zs,zi,zi,zi,zi],st 8 6 55]<|
.seq (sr [1,3,6,50,51,52,72] [fa 56 0 6,l1 57 56,m 58 4,bt 59 .lss 57 58,m 60 59,fG 61 60 false 0 6,lG 62 60 false 61,fG 63 60 false 0 1,lG 64 60 false 63,btG 65 60 false .gtr 62 64,oR 66 60 65,m 67 66,mG 68 67 false 3,laG 69 67 false 8 6,k2G 70 67 false 125 68 69,nG 71 67 false 70,oR 72 67 71]<|
cd [1,3,6,50,51,52] 72 (sr [2] [mb 2 false]<|
.ret) no)<|
.seq (.drw [1,3,4,50,51,52] 0<|tk (m 73 3)<|tk (la 74 8 6)<|tk (fa 76 0 6)<|tk (l1 77 76)<|tk (fa 79 0 6)<|tk (l1 80 79)<|.one ⟨some 75,none,.bslice 8 1 [i0,b0,s0,s0,i0,i0,i0,i0] [(0,8,(.t 74))]⟩<|.one (k3 78 50 73 75 77)<|tk (m 3 78)<|.free<|tk (m 4 80)<|.leaf)<|
sr [1,3,4,50,51,52,83] [m 81 3,ln 82 81,bc 83 .gtr 82 30]<|
cd [1,3,4,50,51,52] 83 (sr [2] [mb 2 false]<|
.ret) no)<|
rg [1,3,4,50,51,52] [bc 84 .add 52 1,m 52 84]
def F56:Zg:=⟨1,85,[.tmp 2],false,sr [1] [bx 1 0,mb 2 false]<|
.seq (sr [1,39] [fa 7 1 1,l1 8 7,bc 9 .lss 8 0,m 10 9,fG 11 10 false 1 1,lG 12 10 false 11,fG 13 10 false 0 1,lG 14 10 false 13,btG 15 10 false .gtr 12 14,oR 16 10 15,m 17 16,fG 18 17 false 0 1,lG 19 17 false 18,bcG 20 17 false .gtr 19 1099511627774,oR 21 17 20,m 22 21,fG 23 22 false 2 1,lG 24 22 false 23,lnG 25 22 false 24,bcG 26 22 false .gtr 25 30,oR 27 22 26,m 28 27,fG 29 28 false 3 1,lG 30 28 false 29,lnG 31 28 false 30,bcG 32 28 false .gtr 31 60,oR 33 28 32,m 34 33,fG 35 34 false 2 1,lG 36 34 false 35,k1G 37 34 false 123 36,nG 38 34 false 37,oR 39 34 38]<|
cd [1] 39 (sr [2] [mb 2 false]<|
.ret) no)<|
.seq (sr [1,43] [fa 40 2 1,l1 41 40,⟨some 42,none,.mkfn 124 [(.t 1)]⟩,k2 43 60 41 42]<|
cd [1] 43 (sr [2] [mb 2 false]<|
.ret) no)<|
.seq (.drw [1,3,4] 0<|tk (fa 44 2 1)<|tk (l1 45 44)<|tk (fa 46 1 1)<|tk (l1 47 46)<|tk (bc 48 .add 47 1)<|tk (m 3 45)<|.free<|tk (m 4 48)<|.leaf)<|
.seq (sr [1,3,4,50,51,52] [fa 49 3 1,l1 50 49,ln 51 50,mi 52 0]<|
.block [] 0<|
.loop [1,3,4,50,51,52] [] Zj3)<|
sr [2] [mb 2 true]<|
.ret⟩
theorem c56:cF Tryz.prog 56 F56=some F56:=by kernel_rfl
def Zj4:IC :=
 sr [1,3,17,18,19,20] [bt 20 .lss 19 18]<|
.seq (cd [1,3,17,18,19] 20 no (.exit 0))<|
.seq (.block [1,3,17,18,19] 1<|
sr [1,3,5,17,18,19] [ia 21 3 17 19,la 22 3 21,al 5 [zi,zi,zi],st 3 5 22]<|
.seq (sr [1,5,17,18,19,58] [fa 23 0 5,l1 24 23,m 25 3,bt 26 .leq 24 25,m 27 26,fG 28 27 false 0 5,lG 29 27 false 28,fG 30 27 false 0 1,lG 31 27 false 30,btG 32 27 false .gtr 29 31,oR 33 27 32,m 34 33,fG 35 34 false 1 5,lG 36 34 false 35,bcG 37 34 false .lss 36 1,oR 38 34 37,m 39 38,fG 40 39 false 1 5,lG 41 39 false 40,bcG 42 39 false .gtr 41 1000,oR 43 39 42,m 44 43,fG 45 44 false 2 5,lG 46 44 false 45,bcG 47 44 false .lss 46 0,oR 48 44 47,m 49 48,fG 50 49 false 2 5,lG 51 49 false 50,fG 52 49 false 1 5,lG 53 49 false 52,btG 54 49 false .sub 51 53,⟨some 55,some (49,false),.mx (.c (.g (.int .i64 0))) [(.t 54)]⟩,k1G 56 49 false 126 55,nG 57 49 false 56,oR 58 49 57]<|
cd [1,5,17,18,19] 58 (sr [2] [mb 2 false]<|
.ret) no)<|
rg [1,3,17,18,19] [fa 59 0 5,l1 60 59,m 3 60])<|
rg [1,3,17,18,19] [bc 61 .add 19 1,m 19 61]
def F57:Zg:=⟨1,62,[.tmp 2],false,sr [1] [bx 1 0,mb 2 false]<|
.seq (sr [1,15] [fa 6 0 1,l1 7 6,k1 8 126 7,nt 9 8,m 10 9,fG 11 10 false 1 1,lG 12 10 false 11,lnG 13 10 false 12,bcG 14 10 false .gtr 13 8,oR 15 10 14]<|
cd [1] 15 (sr [2] [mb 2 false]<|
.ret) no)<|
sr [1,3] [mi 3 0]<|
.seq (sr [1,3,17,18,19] [fa 16 1 1,l1 17 16,ln 18 17,mi 19 0]<|
.block [] 0<|
.loop [1,3,17,18,19] [] Zj4)<|
sr [2] [mb 2 true]<|
.ret⟩
theorem c57:cF Tryz.prog 57 F57=some F57:=by kernel_rfl
def Zj5:IC :=
 sr [1,3,4,5,18,19,20,21] [bt 21 .lss 20 19]<|
.seq (cd [1,3,4,5,18,19,20] 21 no (.exit 0))<|
.seq (.block [1,3,4,5,18,19,20] 1<|
sr [1,3,4,5,7,18,19,20] [ia 22 2 18 20,la 23 2 22,al 7 [zi,zi],st 2 7 23]<|
.seq (sr [1,3,4,5,7,9,18,19,20] [m 25 3,fa 26 0 7,l1 27 26,⟨some 28,none,.mget true .i (some (.int .i64 0)) (.t 25) (.t 27)⟩,m 24 28,ex 29 0 24,ex 30 1 24,m 8 29,m 9 30]<|
sr [1,3,4,5,7,18,19,20,31] [m 31 9]<|
cd [1,3,4,5,7,18,19,20] 31 (sr [2] [mb 2 false]<|
.ret) no)<|
rg [1,3,4,5,18,19,20] [m 32 3,fa 33 0 7,l1 34 33,fa 35 1 7,l1 36 35,⟨none,none,.mset .i (.t 32) (.t 34) (.t 36)⟩])<|
rg [1,3,4,5,18,19,20] [bc 37 .add 20 1,m 20 37]
def Zj6:IC :=
 sr [1,3,4,5,39,40,41,42] [bt 42 .lss 41 40]<|
.seq (cd [1,3,4,5,39,40,41] 42 no (.exit 2))<|
.seq (.block [1,3,4,5,39,40,41] 3<|
sr [1,3,4,5,11,39,40,41] [ia 43 11 39 41,la 44 11 43,al 11 [zi,zi,zi,zi,zi,zi,zi,zi,zb,.s 6,.s 8],st 11 11 44]<|
sr [1,3,4,5,11,12,13,39,40,41] [m 46 3,fa 47 0 11,l1 48 47,⟨some 49,none,.mget true .i (some (.int .i64 0)) (.t 46) (.t 48)⟩,m 45 49,ex 50 0 45,ex 51 1 45,m 12 50,m 13 51]<|
.seq (sr [1,3,4,5,11,39,40,41,64] [m 52 4,la 53 11 11,k1 54 96 53,⟨some 55,none,.mget2 false [.i,.i] (some (.bool false)) (.t 52) (.t 54)⟩,m 56 55,mG 57 56 false 13,mG 58 56 false 57,fG 59 58 true 1 11,lG 60 58 true 59,mG 61 58 true 12,btG 62 58 true .leq 60 61,⟨some 63,some (56,false),.pick (.t 58) (.t 62) (.c (.g (.bool false)))⟩,oR 64 56 63]<|
cd [1,3,4,5,11,39,40,41] 64 (sr [2] [mb 2 false]<|
.ret) no)<|
sr [1,3,4,5,11,39,40,41] [m 65 4,la 66 11 11,k1 67 96 66,⟨none,none,.mset2 [.i,.i] (.t 65) (.t 67) (.c (.g (.bool true)))⟩]<|
sr [1,3,4,5,11,39,40,41] [m 68 5,fa 69 0 11,l1 70 69,⟨some 71,none,.mget false .i (some (.int .i64 0)) (.t 68) (.t 70)⟩,bc 72 .add 71 1,⟨none,none,.mset .i (.t 68) (.t 70) (.t 72)⟩]<|
sr [1,3,4,5,39,40,41,77] [m 73 5,fa 74 0 11,l1 75 74,⟨some 76,none,.mget false .i (some (.int .i64 0)) (.t 73) (.t 75)⟩,bc 77 .gtr 76 4]<|
cd [1,3,4,5,39,40,41] 77 (sr [2] [mb 2 false]<|
.ret) no)<|
rg [1,3,4,5,39,40,41] [bc 78 .add 41 1,m 41 78]
def F58:Zg:=⟨1,83,[.tmp 2],false,sr [1] [bx 1 0,mb 2 false]<|
sr [1,3,4,5] [⟨some 14,none,.mkmap⟩,⟨some 15,none,.mkmap2⟩,⟨some 16,none,.mkmap⟩,m 3 14,m 4 15,m 5 16]<|
.seq (sr [1,3,4,5,18,19,20] [fa 17 1 1,l1 18 17,ln 19 18,mi 20 0]<|
.block [1,3,4,5] 0<|
.loop [1,3,4,5,18,19,20] [] Zj5)<|
.seq (sr [1,3,4,5,39,40,41] [fa 38 0 1,l1 39 38,ln 40 39,mi 41 0]<|
.block [1] 2<|
.loop [1,3,4,5,39,40,41] [] Zj6)<|
sr [2] [la 79 2 1,k1 80 98 79,ln 81 80,bc 82 .leq 81 8,m 2 82]<|
.ret⟩
theorem c58:cF Tryz.prog 58 F58=some F58:=by kernel_rfl
def F59:Zg:=⟨1,34,[.tmp 2],false,sr [1] [bx 1 0,mb 2 false]<|
.seq (sr [1,25] [fa 3 0 1,l1 4 3,bc 5 .lss 4 0,m 6 5,fG 7 6 false 0 1,lG 8 6 false 7,bcG 9 6 false .gtr 8 14,oR 10 6 9,m 11 10,fG 12 11 false 1 1,lG 13 11 false 12,fG 14 11 false 2 1,lG 15 11 false 14,fG 16 11 false 3 1,lG 17 11 false 16,fG 18 11 false 4 1,lG 19 11 false 18,fG 20 11 false 5 1,lG 21 11 false 20,⟨some 22,some (11,false),.bslice 1 5 [i0] [(0,1,(.t 13)),(1,1,(.t 15)),(2,1,(.t 17)),(3,1,(.t 19)),(4,1,(.t 21))]⟩,k1G 23 11 false 89 22,nG 24 11 false 23,oR 25 11 24]<|
cd [1] 25 (sr [2] [mb 2 false]<|
.ret) no)<|
sr [2] [fa 26 7 1,l1 27 26,⟨some 28,none,.call (.c (.g (.fn 127))) [(.t 27),(.c (.g (.int .i64 30))),(.c (.g (.fn 128)))]⟩,m 29 28,fG 30 29 true 8 1,lG 31 29 true 30,⟨some 32,some (29,true),.call (.c (.g (.fn 129))) [(.t 31),(.c (.g (.int .i64 30))),(.c (.g (.fn 130)))]⟩,aN 33 29 32,m 2 33]<|
.ret⟩
theorem c59:cF Tryz.prog 59 F59=some F59:=by kernel_rfl
def F60:Zg:=⟨2,9,[.tmp 4],false,sr [0,1] [mb 4 false]<|
sr [4] [m 5 0,m 6 1,k2 7 131 5 6,bc 8 .geq 7 0,m 4 8]<|
.ret⟩
theorem c60:cF Tryz.prog 60 F60=some F60:=by kernel_rfl
def F61:Zg:=⟨2,15,[.tmp 3],false,sr [1,2] [bx 2 0,mb 3 false]<|
sr [3] [fa 4 5 2,l1 5 4,bc 6 .neq 5 0,m 7 6,fG 8 7 true 4 1,laG 9 7 true 2 8,fG 10 7 true 5 2,lG 11 7 true 10,k2G 12 7 true 62 9 11,nG 13 7 true 12,aN 14 7 13,m 3 14]<|
.ret⟩
theorem c61:cF Tryz.prog 61 F61=some F61:=by kernel_rfl
def F62:Zg:=⟨2,9,[.tmp 4],false,sr [1,2] [bx 2 0,mb 4 false]<|
sr [4] [la 5 2 2,m 6 1,k2 7 132 5 6,bc 8 .geq 7 0,m 4 8]<|
.ret⟩
theorem c62:cF Tryz.prog 62 F62=some F62:=by kernel_rfl
def F63:Zg:=⟨2,26,[.cell 4 true 2,.tmp 5],false,sr [1,2,4] [bx 2 0,al 4 [zi,.s 3],mi 5 0]<|
sr [2,4,6] [la 7 2 2,m 8 1,k2 9 132 7 8,m 6 9]<|
.seq (sr [2,4,6,11] [m 10 6,bc 11 .lss 10 0]<|
cd [2,4,6] 11 (sr [4,5] [la 12 2 2,st 2 4 12,mi 5 6]<|
.ret) no)<|
.seq (.drw [2,4] 0<|tk (fa 13 1 2)<|tk (l1 14 13)<|tk (m 15 6)<|tk ⟨some 16,none,.slc 3 (.t 14) none (some (.t 15))⟩<|tk (fa 17 1 2)<|tk (l1 18 17)<|tk (m 19 6)<|tk (bc 20 .add 19 1)<|tk ⟨some 21,none,.slc 3 (.t 18) (some (.t 20)) none⟩<|.one ⟨some 22,none,.bslice 1 2 [.nsl] [(0,1,(.t 16)),(1,1,(.t 21))]⟩<|.one (k1 23 133 22)<|.free<|tk (fa 24 1 2)<|.one (st 1 24 23)<|.leaf)<|
sr [4,5] [la 25 2 2,st 2 4 25,mi 5 0]<|
.ret⟩
theorem c63:cF Tryz.prog 63 F63=some F63:=by kernel_rfl
def Zj7:IC :=
 sr [1,5,10,11,12,13] [bt 13 .lss 12 11]<|
.seq (cd [1,5,10,11,12] 13 no (.exit 0))<|
.seq (.block [1,5,10,11,12] 1<|
sr [1,5,7,10,11,12] [ia 14 6 10 12,la 15 6 14,al 7 [zs,zs,zi,zi,zi,zi],st 6 7 15]<|
sr [1,5,7,10,11,12,19] [fa 16 5 7,l1 17 16,m 18 1,bt 19 .eql 17 18]<|
cd [1,5,10,11,12] 19 (rg [1,5,10,11,12] [m 20 5,fa 21 0 7,l1 22 21,⟨some 23,none,.build [gb,gs,gs,gi] [(0,1,(.c (.g (.bool true)))),(1,1,(.t 22))]⟩,⟨some 24,none,.bslice 4 1 [b0,s0,s0,i0] [(0,4,(.t 23))]⟩,ap 25 4 48 20 24,m 5 25]) no)<|
rg [1,5,10,11,12] [bc 26 .add 12 1,m 12 26]
def F64:Zg:=⟨2,28,[.tmp 4],false,sr [0,1] [nr 4 4]<|
.seq (sr [0,1,9] [m 8 1,bc 9 .eql 8 0]<|
cd [0,1] 9 (sr [4] [nr 4 4]<|
.ret) no)<|
sr [0,1,5] [nr 5 4]<|
.seq (sr [1,5,10,11,12] [m 10 0,ln 11 10,mi 12 0]<|
.block [5] 0<|
.loop [1,5,10,11,12] [] Zj7)<|
sr [4] [m 27 5,m 4 27]<|
.ret⟩
theorem c64:cF Tryz.prog 64 F64=some F64:=by kernel_rfl
def F65:Zg:=⟨2,38,[.cell 4 true 4,.tmp 5],false,sr [2,3,4] [bx 2 0,bx 3 1,al 4 [zi,zi,.s 6,.s 8],mi 5 0]<|
.seq (.block [2,3,4] 0<|
sr [2,3,4,6] [l1 7 3,bc 8 .lss 7 0,m 9 8,lG 10 9 false 3,fG 11 9 false 0 2,lG 12 9 false 11,btG 13 9 false .gtr 10 12,oR 14 9 13,m 6 14]<|
cd [2,3,4] 6 (sr [4,5] [la 15 4 2,st 4 4 15,mi 5 8]<|
.ret) (sr [2,3,4,16] [l1 17 3,fa 18 1 2,l1 19 18,bt 20 .lss 17 19,m 16 20]<|
cd [2,3,4] 16 (sr [4,5] [la 21 4 2,st 4 4 21,mi 5 9]<|
.ret) no))<|
sr [2,3,4] [fa 22 2 2,l1 23 22,fa 24 3 2,l1 25 24,l1 26 3,k3 27 50 23 25 26,fa 28 2 2,st 1 28 27]<|
sr [2,3,4] [l1 29 3,fa 30 1 2,st 1 30 29]<|
sr [2,4] [fa 31 3 2,l1 32 31,k1 33 135 32,⟨some 34,none,.mkfn 136 [(.t 3)]⟩,k2 35 134 33 34,fa 36 3 2,st 1 36 35]<|
sr [4,5] [la 37 4 2,st 4 4 37,mi 5 0]<|
.ret⟩
theorem c65:cF Tryz.prog 65 F65=some F65:=by kernel_rfl
def F66:Zg:=⟨2,55,[.cell 4 true 4,.tmp 5,.tmp 6],false,sr [1,2,4] [bx 2 0,al 4 [zi,zi,.s 6,.s 8],nr 5 8,mi 6 0]<|
.seq (sr [1,2,4,11] [m 9 1,k1 10 137 9,nt 11 10]<|
cd [1,2,4] 11 (sr [4,5,6] [la 12 4 2,st 4 4 12,nr 5 8,mi 6 1]<|
.ret) no)<|
.seq (.drw [2,4,7,8] 0<|tk (la 14 4 2)<|tk (m 16 1)<|tk (fa 17 0 2)<|tk (l1 18 17)<|tk (bc 19 .add 18 1)<|.one (k1 15 20 14)<|.one (k3 20 138 15 16 19)<|tk (m 13 20)<|tk (ex 21 0 13)<|tk (ex 22 1 13)<|.free<|tk (m 7 21)<|tk (m 8 22)<|.leaf)<|
.seq (sr [2,4,7,8,25] [m 23 7,ln 24 23,bc 25 .eql 24 0]<|
cd [2,4,7,8] 25 (sr [4,5,6] [la 26 4 2,st 4 4 26,nr 5 8,mi 6 0]<|
.ret) no)<|
.seq (sr [2,4,7,41] [m 27 8,m 28 27,fG 29 28 false 0 2,lG 30 28 false 29,bcG 31 28 false .eql 30 1099511627774,oR 32 28 31,m 33 32,fG 34 33 false 3 2,lG 35 33 false 34,lnG 36 33 false 35,mG 37 33 false 7,lnG 38 33 false 37,btG 39 33 false .add 36 38,bcG 40 33 false .gtr 39 60,oR 41 33 40]<|
cd [2,4,7] 41 (sr [4,5,6] [la 42 4 2,st 4 4 42,nr 5 8,mi 6 4]<|
.ret) no)<|
sr [2,4,7] [fa 43 0 2,l1 44 43,bc 45 .add 44 1,fa 46 0 2,st 1 46 45]<|
sr [2,4,7] [fa 47 3 2,l1 48 47,m 49 7,⟨some 50,none,.bslice 1 2 [.nsl] [(0,1,(.t 48)),(1,1,(.t 49))]⟩,k1 51 139 50,fa 52 3 2,st 1 52 51]<|
sr [4,5,6] [la 53 4 2,m 54 7,st 4 4 53,m 5 54,mi 6 0]<|
.ret⟩
theorem c66:cF Tryz.prog 66 F66=some F66:=by kernel_rfl
def F67:Zg:=⟨2,35,[.cell 4 true 2,.tmp 5],false,sr [1,2,4] [bx 2 0,al 4 [zi,.s 3],mi 5 0]<|
sr [2,4,6] [la 8 2 2,m 9 1,k2 10 42 8 9,m 6 10]<|
.seq (sr [2,4,6,12] [m 11 6,bc 12 .lss 11 0]<|
cd [2,4,6] 12 (sr [4,5] [la 13 2 2,st 2 4 13,mi 5 6]<|
.ret) no)<|
sr [2,4,6,7] [fa 14 0 2,l1 15 14,⟨some 16,none,.build [gi,gn] [(0,1,(.t 15))]⟩,al 7 [zi,.s 3],st 2 7 16]<|
.seq (.drw [2,4,6,7] 0<|tk (fa 17 1 7)<|tk (l1 18 17)<|tk (fa 19 1 2)<|tk (l1 20 19)<|tk (m 21 6)<|tk ⟨some 22,none,.slc 3 (.t 20) none (some (.t 21))⟩<|.one (ap 23 3 24 18 22)<|.free<|tk (fa 24 1 7)<|.one (st 1 24 23)<|.leaf)<|
.seq (.drw [4,7] 0<|tk (fa 25 1 7)<|tk (l1 26 25)<|tk (fa 27 1 2)<|tk (l1 28 27)<|tk (m 29 6)<|tk (bc 30 .add 29 1)<|tk ⟨some 31,none,.slc 3 (.t 28) (some (.t 30)) none⟩<|.one (ap 32 3 24 26 31)<|.free<|tk (fa 33 1 7)<|.one (st 1 33 32)<|.leaf)<|
sr [4,5] [la 34 2 7,st 2 4 34,mi 5 0]<|
.ret⟩
theorem c67:cF Tryz.prog 67 F67=some F67:=by kernel_rfl
def Zj8:IC :=
 .seq (sr [0,1,5,6,10] [m 7 6,m 8 0,ln 9 8,bt 10 .lss 7 9]<|
cd [0,1,5,6] 10 no (.exit 0))<|
.seq (.block [0,1,5,6] 1<|
sr [0,1,5,6,23] [m 13 1,bc 14 .neq 13 0,m 15 14,mG 16 15 true 0,mG 17 15 true 6,iG 18 15 true 6 16 17,fG 19 15 true 5 18,lG 20 15 true 19,mG 21 15 true 1,btG 22 15 true .eql 20 21,aN 23 15 22]<|
cd [0,1,5,6] 23 (rg [0,1,5,6] [m 24 5,m 25 0,m 26 6,ia 27 6 25 26,fa 28 0 27,l1 29 28,⟨some 30,none,.build [gb,gs,gs,gi] [(0,1,(.c (.g (.bool true)))),(1,1,(.t 29))]⟩,⟨some 31,none,.bslice 4 1 [b0,s0,s0,i0] [(0,4,(.t 30))]⟩,ap 32 4 48 24 31,m 5 32]) no)<|
rg [0,1,5,6] [m 11 6,bc 12 .add 11 1,m 6 12]
def F68:Zg:=⟨2,34,[.tmp 4],false,sr [0,1] [nr 4 4]<|
sr [0,1,5] [nr 5 4]<|
.seq (sr [0,1,5,6] [mi 6 0]<|
.block [5] 0<|
.loop [0,1,5,6] [] Zj8)<|
sr [4] [m 33 5,m 4 33]<|
.ret⟩
theorem c68:cF Tryz.prog 68 F68=some F68:=by kernel_rfl
def Zde:IC :=
 .seq (sr [1,2,4,6,7,36] [m 32 7,fa 33 3 2,l1 34 33,ln 35 34,bt 36 .lss 32 35]<|
cd [1,2,4,6,7] 36 no (.exit 0))<|
.seq (.block [1,2,4,6,7] 1<|
sr [1,2,4,6,7,46] [fa 39 3 2,l1 40 39,m 41 7,ia 42 8 40 41,fa 43 0 42,l1 44 43,m 45 1,bt 46 .gtr 44 45]<|
cd [1,2,4,6,7] 46 (.drw [1,2,4,6,7] 0<|tk (fa 47 3 6)<|tk (l1 48 47)<|tk (fa 49 3 2)<|tk (l1 50 49)<|tk (m 51 7)<|tk (ia 52 8 50 51)<|tk (la 53 8 52)<|.one ⟨some 54,none,.bslice 8 1 [i0,b0,s0,s0,i0,i0,i0,i0] [(0,8,(.t 53))]⟩<|.one (ap 55 8 80 48 54)<|.free<|tk (fa 56 3 6)<|.one (st 1 56 55)<|.leaf) no)<|
rg [1,2,4,6,7] [m 37 7,bc 38 .add 37 1,m 7 38]
def F69:Zg:=⟨2,58,[.cell 4 true 4,.tmp 5],false,sr [1,2,4] [bx 2 0,al 4 [zi,zi,.s 6,.s 8],mi 5 0]<|
.seq (sr [1,2,4,15] [m 8 1,bc 9 .lss 8 0,m 10 9,mG 11 10 false 1,fG 12 10 false 0 2,lG 13 10 false 12,btG 14 10 false .gtr 11 13,oR 15 10 14]<|
cd [1,2,4] 15 (sr [4,5] [la 16 4 2,st 4 4 16,mi 5 8]<|
.ret) no)<|
.seq (sr [1,2,4,20] [m 17 1,fa 18 1 2,l1 19 18,bt 20 .lss 17 19]<|
cd [1,2,4] 20 (sr [4,5] [la 21 4 2,st 4 4 21,mi 5 9]<|
.ret) no)<|
.seq (.drw [1,2,4,6] 1<|tk (fa 22 0 2)<|tk (l1 23 22)<|tk (m 24 1)<|tk (fa 25 2 2)<|tk (l1 26 25)<|tk (fa 27 3 2)<|tk (l1 28 27)<|tk (m 29 1)<|
.alt (k3 30 41 26 28 29) (tk ⟨some 31,none,.build [gi,gi,gn,gn] [(0,1,(.t 23)),(1,1,(.t 24)),(2,1,(.t 30))]⟩<|.one (aa 6 0 [zi,zi,.s 6,.s 8])<|.free<|.one (st 4 6 31)<|.leaf) (.one (aa 6 0 [zi,zi,.s 6,.s 8])<|.one (k3 30 41 26 28 29)<|tk ⟨some 31,none,.build [gi,gi,gn,gn] [(0,1,(.t 23)),(1,1,(.t 24)),(2,1,(.t 30))]⟩<|.free<|.one (st 4 6 31)<|.leaf))<|
.seq (sr [1,2,4,6,7] [mi 7 0]<|
.block [4,6] 0<|
.loop [1,2,4,6,7] [] Zde)<|
sr [4,5] [la 57 4 6,st 4 4 57,mi 5 0]<|
.ret⟩
theorem c69:cF Tryz.prog 69 F69=some F69:=by kernel_rfl
def Zdf:IC :=
 .seq (sr [1,2,4,7,8,9,10,11,28] [m 25 11,m 26 1,ln 27 26,bt 28 .lss 25 27]<|
cd [1,2,4,7,8,9,10,11] 28 no (.exit 0))<|
.seq (.block [1,2,4,7,8,9,10,11] 1<|
sr [1,2,4,7,8,9,10,11,12,13] [m 32 7,m 33 1,m 34 11,ia 35 4 33 34,fa 36 1 35,l1 37 36,k2 38 141 32 37,m 31 38,ex 39 0 31,ex 40 1 31,al 12 [zs,zs,zi,zi,zi,zi],st 6 12 39,m 13 40]<|
.seq (.drw [1,2,4,7,8,9,10,11,12,13,14] 1<|tk (m 41 8)<|tk (m 42 1)<|tk (m 43 11)<|tk (ia 44 4 42 43)<|tk (fa 45 0 44)<|tk (l1 46 45)<|tk (la 47 6 12)<|tk ⟨some 48,none,.build [gi,gb,gs,gs,gi,gi,gi,gi] [(0,1,(.t 41)),(1,1,(.t 46)),(2,6,(.t 47))]⟩<|.one (aa 14 0 [zi,zb,zs,zs,zi,zi,zi,zi])<|.free<|.one (st 8 14 48)<|.leaf)<|
.seq (sr [1,2,4,7,8,9,10,11,12,13,14,57] [m 49 1,m 50 11,ia 51 4 49 50,fa 52 0 51,l1 53 52,m 54 53,mG 55 54 true 13,nG 56 54 true 55,aN 57 54 56]<|
cd [1,2,4,7,8,9,10,11,12,13,14] 57 (.exit 1) no)<|
.seq (sr [1,2,4,7,8,9,10,11,12,13,14,63] [m 58 1,m 59 11,ia 60 4 58 59,fa 61 0 60,l1 62 61,nt 63 62]<|
cd [1,2,4,7,8,9,10,11,14] 63 (.seq (.drw [1,2,4,7,8,9,10,11,12,13,14] 0<|tk (m 64 1)<|tk (m 65 11)<|tk (ia 66 4 64 65)<|tk (fa 67 1 66)<|tk (l1 68 67)<|tk (m 69 1)<|tk (m 70 11)<|tk (ia 71 4 69 70)<|tk (fa 72 2 71)<|tk (l1 73 72)<|tk (m 74 8)<|tk (m 75 8)<|tk (m 76 1)<|tk (m 77 11)<|tk (ia 78 4 76 77)<|tk (fa 79 3 78)<|tk (l1 80 79)<|.free<|tk ⟨some 81,none,.build [gs,gs,gi,gi,gi,gi] [(0,1,(.t 68)),(1,1,(.t 73)),(2,1,(.t 74)),(3,1,(.t 75)),(4,1,(.c (.g (.int .i64 1)))),(5,1,(.t 80))]⟩<|tk (fa 82 2 14)<|.one (st 6 82 81)<|.leaf)<|
sr [1,2,4,7,8,9,10,11,12,14,83] [m 83 13]<|
cd [1,2,4,7,8,9,10,11,14] 83 (sr [1,2,4,7,8,9,10,11,12,14] [fa 84 2 12,l1 85 84,fa 86 2 14,fa 87 2 86,st 1 87 85]<|
rg [1,2,4,7,8,9,10,11,14] [fa 88 4 12,l1 89 88,bc 90 .add 89 1,fa 91 2 14,fa 92 4 91,st 1 92 90]) no) no)<|
sr [1,2,4,7,8,9,10,11,14] [m 93 9,la 94 8 14,⟨some 95,none,.bslice 8 1 [i0,b0,s0,s0,i0,i0,i0,i0] [(0,8,(.t 94))]⟩,ap 96 8 80 93 95,m 9 96]<|
sr [1,2,4,7,8,9,10,11] [m 97 7,la 98 8 14,⟨some 99,none,.bslice 8 1 [i0,b0,s0,s0,i0,i0,i0,i0] [(0,8,(.t 98))]⟩,m 100 8,k3 101 41 97 99 100,m 7 101]<|
rg [1,2,4,7,8,9,10,11] [m 102 10,m 103 102,mG 104 103 false 7,lnG 105 103 false 104,bcG 106 103 false .gtr 105 30,oR 107 103 106,m 10 107])<|
rg [1,2,4,7,8,9,10,11] [m 29 11,bc 30 .add 29 1,m 11 30]
def F70:Zg:=⟨2,143,[.cell 4 true 4,.tmp 5,.tmp 6],false,sr [1,2,4] [bx 2 0,al 4 [zi,zi,.s 6,.s 8],nr 5 8,mi 6 0]<|
.seq (sr [1,2,4,18] [m 16 1,k1 17 140 16,nt 18 17]<|
cd [1,2,4] 18 (sr [4,5,6] [la 19 4 2,st 4 4 19,nr 5 8,mi 6 1]<|
.ret) no)<|
sr [1,2,4,7] [la 20 4 2,k1 21 15 20,m 7 21]<|
sr [1,2,4,7,8] [fa 22 0 2,l1 23 22,bc 24 .add 23 1,m 8 24]<|
sr [1,2,4,7,8,9] [nr 9 8]<|
sr [1,2,4,7,8,9,10] [mb 10 false]<|
.seq (sr [1,2,4,7,8,9,10,11] [mi 11 0]<|
.block [2,4,8,9,10] 0<|
.loop [1,2,4,7,8,9,10,11] [] Zdf)<|
.seq (sr [2,4,8,9,10,110] [m 108 9,ln 109 108,bc 110 .eql 109 0]<|
cd [2,4,8,9,10] 110 (sr [4,5,6] [la 111 4 2,st 4 4 111,nr 5 8,mi 6 0]<|
.ret) no)<|
.seq (sr [2,4,8,9,126] [m 112 10,m 113 112,fG 114 113 false 0 2,lG 115 113 false 114,bcG 116 113 false .geq 115 1099511627774,oR 117 113 116,m 118 117,fG 119 118 false 3 2,lG 120 118 false 119,lnG 121 118 false 120,mG 122 118 false 9,lnG 123 118 false 122,btG 124 118 false .add 121 123,bcG 125 118 false .gtr 124 60,oR 126 118 125]<|
cd [2,4,8,9] 126 (sr [4,5,6] [la 127 4 2,st 4 4 127,nr 5 8,mi 6 4]<|
.ret) no)<|
sr [2,4,8,9,15] [la 128 4 2,al 15 [zi,zi,.s 6,.s 8],st 4 15 128]<|
sr [2,4,9,15] [m 129 8,fa 130 0 15,st 1 130 129]<|
sr [4,9,15] [⟨some 131,none,.mk0 8⟩,fa 132 3 2,l1 133 132,ap 134 8 80 131 133,fa 135 3 15,st 1 135 134]<|
sr [4,9,15] [fa 136 3 15,l1 137 136,m 138 9,ap 139 8 80 137 138,fa 140 3 15,st 1 140 139]<|
sr [4,5,6] [la 141 4 15,m 142 9,st 4 4 141,m 5 142,mi 6 0]<|
.ret⟩
theorem c70:cF Tryz.prog 70 F70=some F70:=by kernel_rfl
def F72:Zg:=⟨1,9,[.tmp 2],false,sr [0] [mb 2 false]<|
sr [2] [m 3 0,bc 4 .geq 3 0,m 5 4,mG 6 5 true 0,bcG 7 5 true .leq 6 1099511627775,aN 8 5 7,m 2 8]<|
.ret⟩
theorem c72:cF Tryz.prog 72 F72=some F72:=by kernel_rfl
def F73:Zg:=⟨2,13,[.tmp 4],false,sr [0,1] [mb 4 false]<|
sr [4] [m 5 0,⟨some 6,none,.lenS (.t 5)⟩,bc 7 .leq 6 40,m 8 7,mG 9 8 true 1,⟨some 10,some (8,true),.lenS (.t 9)⟩,bcG 11 8 true .leq 10 20,aN 12 8 11,m 4 12]<|
.ret⟩
theorem c73:cF Tryz.prog 73 F73=some F73:=by kernel_rfl
def Zj9:IC :=
 .seq (sr [0,3,10] [m 7 3,m 8 0,ln 9 8,bt 10 .lss 7 9]<|
cd [0,3] 10 no (.exit 0))<|
.seq (.block [0,3] 1<|
.seq (.drw [0,3,33] 0<|tk (m 13 0)<|tk (m 14 3)<|tk (ia 15 4 13 14)<|tk (fa 16 1 15)<|tk (l1 17 16)<|tk (m 18 0)<|tk (m 19 3)<|tk (ia 20 4 18 19)<|tk (fa 21 2 20)<|tk (l1 22 21)<|.one (k2 23 73 17 22)<|tk (nt 24 23)<|tk (m 25 24)<|tk (mG 26 25 false 0)<|tk (mG 27 25 false 3)<|tk (iG 28 25 false 4 26 27)<|tk (fG 29 25 false 3 28)<|.one (lG 30 25 false 29)<|.one (k1G 31 25 false 72 30)<|tk (nG 32 25 false 31)<|tk (oR 33 25 32)<|.leaf)<|
cd [0,3] 33 (sr [2] [mb 2 false]<|
.ret) no)<|
rg [0,3] [m 11 3,bc 12 .add 11 1,m 3 12]
def F74:Zg:=⟨1,34,[.tmp 2],false,sr [0] [mb 2 false]<|
.seq (sr [0,6] [m 4 0,ln 5 4,bc 6 .gtr 5 4]<|
cd [0] 6 (sr [2] [mb 2 false]<|
.ret) no)<|
.seq (sr [0,3] [mi 3 0]<|
.block [] 0<|
.loop [0,3] [] Zj9)<|
sr [2] [mb 2 true]<|
.ret⟩
theorem c74:cF Tryz.prog 74 F74=some F74:=by kernel_rfl
def F75:Zg:=⟨1,28,[.tmp 2],false,sr [1] [bx 1 0,mb 2 false]<|
sr [2] [fa 3 0 1,l1 4 3,fa 5 1 1,l1 6 5,k2 7 73 4 6,m 8 7,fG 9 8 true 2 1,lG 10 8 true 9,k1G 11 8 true 72 10,aN 12 8 11,m 13 12,fG 14 13 true 3 1,lG 15 13 true 14,k1G 16 13 true 72 15,aN 17 13 16,m 18 17,fG 19 18 true 4 1,lG 20 18 true 19,k1G 21 18 true 72 20,aN 22 18 21,m 23 22,fG 24 23 true 5 1,lG 25 23 true 24,k1G 26 23 true 72 25,aN 27 23 26,m 2 27]<|
.ret⟩
theorem c75:cF Tryz.prog 75 F75=some F75:=by kernel_rfl
def Zka:IC :=
 .seq (sr [0,3,10] [m 7 3,m 8 0,ln 9 8,bt 10 .lss 7 9]<|
cd [0,3] 10 no (.exit 0))<|
.seq (.block [0,3] 1<|
sr [0,3,28] [m 13 0,m 14 3,ia 15 4 13 14,fa 16 1 15,l1 17 16,⟨some 18,none,.lenS (.t 17)⟩,bc 19 .gtr 18 60,m 20 19,mG 21 20 false 0,mG 22 20 false 3,iG 23 20 false 4 21 22,fG 24 20 false 2 23,lG 25 20 false 24,⟨some 26,some (20,false),.lenS (.t 25)⟩,bcG 27 20 false .gtr 26 60,oR 28 20 27]<|
cd [0,3] 28 (sr [2] [mb 2 false]<|
.ret) no)<|
rg [0,3] [m 11 3,bc 12 .add 11 1,m 3 12]
def F76:Zg:=⟨1,29,[.tmp 2],false,sr [0] [mb 2 false]<|
.seq (sr [0,6] [m 4 0,ln 5 4,bc 6 .gtr 5 8]<|
cd [0] 6 (sr [2] [mb 2 false]<|
.ret) no)<|
.seq (sr [0,3] [mi 3 0]<|
.block [] 0<|
.loop [0,3] [] Zka)<|
sr [2] [mb 2 true]<|
.ret⟩
theorem c76:cF Tryz.prog 76 F76=some F76:=by kernel_rfl
def Zkb:IC :=
 .seq (sr [0,5,13] [m 10 5,m 11 0,ln 12 11,bt 13 .lss 10 12]<|
cd [0,5] 13 no (.exit 0))<|
.seq (.block [0,5] 1<|
sr [0,5,31] [m 16 0,m 17 5,ia 18 6 16 17,fa 19 0 18,l1 20 19,⟨some 21,none,.lenS (.t 20)⟩,bc 22 .gtr 21 60,m 23 22,mG 24 23 false 0,mG 25 23 false 5,iG 26 23 false 6 24 25,fG 27 23 false 1 26,lG 28 23 false 27,⟨some 29,some (23,false),.lenS (.t 28)⟩,bcG 30 23 false .gtr 29 60,oR 31 23 30]<|
cd [0,5] 31 (sr [4] [mb 4 false]<|
.ret) no)<|
rg [0,5] [m 14 5,bc 15 .add 14 1,m 5 15]
def F77:Zg:=⟨2,32,[.tmp 4],false,sr [0,1] [mb 4 false]<|
.seq (sr [0,9] [m 6 0,ln 7 6,m 8 1,bt 9 .gtr 7 8]<|
cd [0] 9 (sr [4] [mb 4 false]<|
.ret) no)<|
.seq (sr [0,5] [mi 5 0]<|
.block [] 0<|
.loop [0,5] [] Zkb)<|
sr [4] [mb 4 true]<|
.ret⟩
theorem c77:cF Tryz.prog 77 F77=some F77:=by kernel_rfl
def Zkc:IC :=
 .seq (sr [0,5,13] [m 10 5,m 11 0,ln 12 11,bt 13 .lss 10 12]<|
cd [0,5] 13 no (.exit 0))<|
.seq (.block [0,5] 1<|
sr [0,5,33] [m 16 0,m 17 5,ia 18 8 16 17,fa 19 2 18,fa 20 0 19,l1 21 20,⟨some 22,none,.lenS (.t 21)⟩,bc 23 .gtr 22 60,m 24 23,mG 25 24 false 0,mG 26 24 false 5,iG 27 24 false 8 25 26,fG 28 24 false 2 27,fG 29 24 false 1 28,lG 30 24 false 29,⟨some 31,some (24,false),.lenS (.t 30)⟩,bcG 32 24 false .gtr 31 60,oR 33 24 32]<|
cd [0,5] 33 (sr [4] [mb 4 false]<|
.ret) no)<|
rg [0,5] [m 14 5,bc 15 .add 14 1,m 5 15]
def F78:Zg:=⟨2,34,[.tmp 4],false,sr [0,1] [mb 4 false]<|
.seq (sr [0,9] [m 6 0,ln 7 6,m 8 1,bt 9 .gtr 7 8]<|
cd [0] 9 (sr [4] [mb 4 false]<|
.ret) no)<|
.seq (sr [0,5] [mi 5 0]<|
.block [] 0<|
.loop [0,5] [] Zkc)<|
sr [4] [mb 4 true]<|
.ret⟩
theorem c78:cF Tryz.prog 78 F78=some F78:=by kernel_rfl
def Zkd:IC :=
 .seq (sr [0,3,7] [m 4 3,m 5 0,ln 6 5,bt 7 .lss 4 6]<|
cd [0,3] 7 no (.exit 0))<|
.seq (.block [0,3] 1<|
.seq (.drw [0,3,33] 0<|tk (m 10 0)<|tk (m 11 3)<|tk (ia 12 6 10 11)<|tk (la 13 6 12)<|.one (k1 14 142 13)<|tk (nt 15 14)<|tk (m 16 15)<|tk (mG 17 16 false 3)<|tk (bcG 18 16 false .gtr 17 0)<|tk (mG 19 16 false 18)<|tk (mG 20 19 true 0)<|tk (mG 21 19 true 3)<|tk (bcG 22 19 true .sub 21 1)<|tk (iG 23 19 true 6 20 22)<|tk (fG 24 19 true 0 23)<|tk (mG 26 19 true 0)<|tk (mG 27 19 true 3)<|tk (iG 28 19 true 6 26 27)<|tk (fG 29 19 true 0 28)<|
.alt (lG 25 19 true 24) (.one (lG 30 19 true 29)<|tk (btG 31 19 true .geq 25 30)<|tk ⟨some 32,some (16,false),.pick (.t 19) (.t 31) (.c (.g (.bool false)))⟩<|tk (oR 33 16 32)<|.leaf) (.one (lG 30 19 true 29)<|.one (lG 25 19 true 24)<|tk (btG 31 19 true .geq 25 30)<|tk ⟨some 32,some (16,false),.pick (.t 19) (.t 31) (.c (.g (.bool false)))⟩<|tk (oR 33 16 32)<|.leaf))<|
cd [0,3] 33 (sr [2] [mb 2 false]<|
.ret) no)<|
rg [0,3] [m 8 3,bc 9 .add 8 1,m 3 9]
def F79:Zg:=⟨1,34,[.tmp 2],false,sr [0] [mb 2 false]<|
.seq (sr [0,3] [mi 3 0]<|
.block [] 0<|
.loop [0,3] [] Zkd)<|
sr [2] [mb 2 true]<|
.ret⟩
theorem c79:cF Tryz.prog 79 F79=some F79:=by kernel_rfl
def F80:Zg:=⟨2,65,[.tmp 4],false,sr [0,3] [bx 3 1,mb 4 false]<|
sr [3,5,6] [m 8 0,fa 9 2 3,fa 10 0 9,l1 11 10,k2 12 141 8 11,m 7 12,ex 13 0 7,ex 14 1 7,al 5 [zs,zs,zi,zi,zi,zi],st 6 5 13,m 6 14]<|
.seq (sr [3,5,6,16] [fa 15 1 3,l1 16 15]<|
cd [3,5,6] 16 (sr [4] [m 17 6,m 18 17,laG 19 18 true 6 5,fG 20 18 true 2 3,laG 21 18 true 6 20,⟨some 22,some (18,true),.eqs false true [.s,.s,.i,.i,.i,.i] (.t 19) (.t 21)⟩,aN 23 18 22,m 4 23]<|
.ret) no)<|
.seq (sr [3,5,6,35] [fa 24 2 3,la 25 6 24,k1 26 142 25,nt 27 26,m 28 27,fG 29 28 false 2 3,fG 30 28 false 3 29,lG 31 28 false 30,fG 32 28 false 0 3,lG 33 28 false 32,btG 34 28 false .neq 31 33,oR 35 28 34]<|
cd [3,5,6] 35 (sr [4] [mb 4 false]<|
.ret) no)<|
.seq (sr [3,5,37] [m 36 6,nt 37 36]<|
cd [3,5] 37 (sr [4] [fa 38 2 3,fa 39 2 38,l1 40 39,fa 41 0 3,l1 42 41,bt 43 .eql 40 42,m 44 43,fG 45 44 true 2 3,fG 46 44 true 4 45,lG 47 44 true 46,bcG 48 44 true .eql 47 1,aN 49 44 48,m 4 49]<|
.ret) no)<|
sr [4] [fa 50 2 3,fa 51 2 50,l1 52 51,fa 53 2 5,l1 54 53,bt 55 .eql 52 54,m 56 55,fG 57 56 true 2 3,fG 58 56 true 4 57,lG 59 56 true 58,bcG 60 56 true .sub 59 1,fG 61 56 true 4 5,lG 62 56 true 61,btG 63 56 true .eql 60 62,aN 64 56 63,m 4 64]<|
.ret⟩
theorem c80:cF Tryz.prog 80 F80=some F80:=by kernel_rfl
def F81:Zg:=⟨1,9,[.tmp 2],false,sr [0] [mb 2 false]<|
sr [2] [m 3 0,bc 4 .geq 3 0,m 5 4,mG 6 5 true 0,bcG 7 5 true .leq 6 1099511627775,aN 8 5 7,m 2 8]<|
.ret⟩
theorem c81:cF Tryz.prog 81 F81=some F81:=by kernel_rfl
def Zke:IC :=
 .seq (sr [1,2,5,10] [m 6 5,fa 7 1 2,l1 8 7,ln 9 8,bt 10 .lss 6 9]<|
cd [1,2,5] 10 no (.exit 0))<|
.seq (.block [1,2,5] 1<|
sr [1,2,5,20] [fa 13 1 2,l1 14 13,m 15 5,ia 16 2 14 15,fa 17 0 16,l1 18 17,m 19 1,bt 20 .eql 18 19]<|
cd [1,2,5] 20 (sr [4] [fa 21 1 2,l1 22 21,m 23 5,ia 24 2 22 23,fa 25 1 24,l1 26 25,m 4 26]<|
.ret) no)<|
rg [1,2,5] [m 11 5,bc 12 .add 11 1,m 5 12]
def F82:Zg:=⟨2,27,[.tmp 4],false,sr [1,2] [bx 2 0,mi 4 0]<|
.seq (sr [1,2,5] [mi 5 0]<|
.block [] 0<|
.loop [1,2,5] [] Zke)<|
sr [4] [mi 4 (-1)]<|
.ret⟩
theorem c82:cF Tryz.prog 82 F82=some F82:=by kernel_rfl
def Zkf:IC :=
 .seq (sr [0,1,5,9] [m 6 5,m 7 0,ln 8 7,bt 9 .lss 6 8]<|
cd [0,1,5] 9 no (.exit 0))<|
.seq (.block [0,1,5] 1<|
sr [0,1,5,18] [m 12 0,m 13 5,ia 14 2 12 13,fa 15 0 14,l1 16 15,m 17 1,bt 18 .eql 16 17]<|
cd [0,1,5] 18 (sr [4] [mb 4 true]<|
.ret) no)<|
rg [0,1,5] [m 10 5,bc 11 .add 10 1,m 5 11]
def F83:Zg:=⟨2,19,[.tmp 4],false,sr [0,1] [mb 4 false]<|
.seq (sr [0,1,5] [mi 5 0]<|
.block [] 0<|
.loop [0,1,5] [] Zkf)<|
sr [4] [mb 4 false]<|
.ret⟩
theorem c83:cF Tryz.prog 83 F83=some F83:=by kernel_rfl
def Ft:IC :=
 .seq (sr [1,2,5,6,11] [m 7 6,fa 8 0 2,l1 9 8,ln 10 9,bt 11 .lss 7 10]<|
cd [1,2,5,6] 11 no (.exit 0))<|
.seq (.block [1,2,5,6] 1<|
sr [1,2,5,6,21] [fa 14 0 2,l1 15 14,m 16 6,ia 17 11 15 16,fa 18 0 17,l1 19 18,m 20 1,bt 21 .eql 19 20]<|
cd [1,2,5,6] 21 (rg [1,2,5,6] [m 22 5,fa 23 0 2,l1 24 23,m 25 6,ia 26 11 24 25,fa 27 1 26,l1 28 27,⟨some 29,none,.call (.c (.g (.fn 115))) [(.t 22),(.t 28),(.c (.g (.bool false)))]⟩,m 5 29]) no)<|
rg [1,2,5,6] [m 12 6,bc 13 .add 12 1,m 6 13]
def F84:Zg:=⟨2,31,[.tmp 4],false,sr [1,2] [bx 2 0,nr 4 1]<|
sr [1,2,5] [nr 5 1]<|
.seq (sr [1,2,5,6] [mi 6 0]<|
.block [5] 0<|
.loop [1,2,5,6] [] Ft)<|
sr [4] [m 30 5,m 4 30]<|
.ret⟩
theorem c84:cF Tryz.prog 84 F84=some F84:=by kernel_rfl
def Zkg:IC :=
 .seq (sr [1,3,4,10] [m 6 4,fa 7 0 1,l1 8 7,ln 9 8,bt 10 .lss 6 9]<|
cd [1,3,4] 10 no (.exit 0))<|
.seq (.block [1,3,4] 1<|
rg [1,3,4] [m 13 3,fa 14 0 1,l1 15 14,m 16 4,ia 17 11 15 16,fa 18 0 17,l1 19 18,⟨some 20,none,.call (.c (.g (.fn 115))) [(.t 13),(.t 19),(.c (.g (.bool true)))]⟩,m 3 20])<|
rg [1,3,4] [m 11 4,bc 12 .add 11 1,m 4 12]
def Zkh:IC :=
 .seq (sr [1,3,5,25] [m 21 5,fa 22 1 1,l1 23 22,ln 24 23,bt 25 .lss 21 24]<|
cd [1,3,5] 25 no (.exit 2))<|
.seq (.block [1,3,5] 3<|
rg [1,3,5] [m 28 3,fa 29 1 1,l1 30 29,m 31 5,ia 32 2 30 31,fa 33 0 32,l1 34 33,⟨some 35,none,.call (.c (.g (.fn 115))) [(.t 28),(.t 34),(.c (.g (.bool true)))]⟩,m 3 35])<|
rg [1,3,5] [m 26 5,bc 27 .add 26 1,m 5 27]
def F85:Zg:=⟨1,37,[.tmp 2],false,sr [1] [bx 1 0,nr 2 1]<|
sr [1,3] [nr 3 1]<|
.seq (sr [1,3,4] [mi 4 0]<|
.block [1,3] 0<|
.loop [1,3,4] [] Zkg)<|
.seq (sr [1,3,5] [mi 5 0]<|
.block [3] 2<|
.loop [1,3,5] [] Zkh)<|
sr [2] [m 36 3,m 2 36]<|
.ret⟩
theorem c85:cF Tryz.prog 85 F85=some F85:=by kernel_rfl
def Zki:IC :=
 .seq (sr [0,1,5,6,7,12] [m 9 7,m 10 0,ln 11 10,bt 12 .lss 9 11]<|
cd [0,1,5,6,7] 12 no (.exit 0))<|
.seq (.block [0,1,5,6,7] 1<|
.seq (sr [0,1,5,6,7,25] [m 15 6,nt 16 15,m 17 16,mG 18 17 true 0,mG 19 17 true 7,iG 20 17 true 6 18 19,fG 21 17 true 0 20,lG 22 17 true 21,mG 23 17 true 1,btG 24 17 true .eql 22 23,aN 25 17 24]<|
cd [0,1,5,6,7] 25 (sr [0,1,5,6,7] [mb 6 true]<|
.exit 1) no)<|
rg [0,1,5,6,7] [m 26 5,m 27 0,m 28 7,ia 29 6 27 28,la 30 6 29,⟨some 31,none,.bslice 6 1 [s0,s0,i0,i0,i0,i0] [(0,6,(.t 30))]⟩,ap 32 6 64 26 31,m 5 32])<|
rg [0,1,5,6,7] [m 13 7,bc 14 .add 13 1,m 7 14]
def F86:Zg:=⟨2,34,[.tmp 4],false,sr [0,1] [nr 4 6]<|
sr [0,1,5] [⟨some 8,none,.mk0 6⟩,m 5 8]<|
sr [0,1,5,6] [mb 6 false]<|
.seq (sr [0,1,5,6,7] [mi 7 0]<|
.block [5] 0<|
.loop [0,1,5,6,7] [] Zki)<|
sr [4] [m 33 5,m 4 33]<|
.ret⟩
theorem c86:cF Tryz.prog 86 F86=some F86:=by kernel_rfl
def Zdg:IC :=
 .seq (.seq (.drw [0,3,5,20] 0<|tk (m 7 5)<|tk (m 8 0)<|tk (ln 9 8)<|tk (bt 10 .lss 7 9)<|tk (m 11 10)<|tk (mG 12 11 true 0)<|tk (mG 13 11 true 5)<|tk (iG 14 11 true 6 12 13)<|tk (fG 15 11 true 0 14)<|tk (lG 16 11 true 15)<|tk (fG 17 11 true 0 3)<|tk (lG 18 11 true 17)<|tk (btG 19 11 true .lss 16 18)<|tk (aN 20 11 19)<|.leaf)<|
cd [0,3,5] 20 no (.exit 0))<|
.block [0,3,5] 1<|
rg [0,3,5] [m 21 5,bc 22 .add 21 1,m 5 22]
def F87:Zg:=⟨2,53,[.tmp 4],false,sr [0,3] [bx 3 1,nr 4 6]<|
sr [0,3,5] [mi 5 0]<|
.seq (.block [0,3,5] 0<|
.loop [0,3,5] [] Zdg)<|
sr [0,3,5,6] [⟨some 23,none,.mk0 6⟩,m 24 0,m 25 5,⟨some 26,none,.slc 6 (.t 24) none (some (.t 25))⟩,ap 27 6 64 23 26,m 6 27]<|
sr [0,3,5,6] [m 28 6,la 29 6 3,⟨some 30,none,.bslice 6 1 [s0,s0,i0,i0,i0,i0] [(0,6,(.t 29))]⟩,ap 31 6 64 28 30,m 6 31]<|
.seq (.seq (.drw [0,5,6,45] 0<|tk (m 32 5)<|tk (m 33 0)<|tk (ln 34 33)<|tk (bt 35 .lss 32 34)<|tk (m 36 35)<|tk (mG 37 36 true 0)<|tk (mG 38 36 true 5)<|tk (iG 39 36 true 6 37 38)<|tk (fG 40 36 true 0 39)<|tk (lG 41 36 true 40)<|tk (fG 42 36 true 0 3)<|tk (lG 43 36 true 42)<|tk (btG 44 36 true .eql 41 43)<|tk (aN 45 36 44)<|.leaf)<|
cd [0,5,6] 45 (rg [0,5,6] [m 46 5,bc 47 .add 46 1,m 5 47]) no)<|
sr [4] [m 48 6,m 49 0,m 50 5,⟨some 51,none,.slc 6 (.t 49) (some (.t 50)) none⟩,ap 52 6 64 48 51,m 4 52]<|
.ret⟩
theorem c87:cF Tryz.prog 87 F87=some F87:=by kernel_rfl
def F88:Zg:=⟨2,13,[.tmp 4],false,sr [0,1] [mb 4 false]<|
sr [4] [m 5 0,⟨some 6,none,.lenS (.t 5)⟩,bc 7 .leq 6 40,m 8 7,mG 9 8 true 1,⟨some 10,some (8,true),.lenS (.t 9)⟩,bcG 11 8 true .leq 10 20,aN 12 8 11,m 4 12]<|
.ret⟩
theorem c88:cF Tryz.prog 88 F88=some F88:=by kernel_rfl
def F89:Zg:=⟨1,6,[.tmp 2],false,sr [0] [mb 2 false]<|
sr [2] [m 3 0,⟨some 4,none,.call (.c (.g (.fn 143))) [(.t 3),(.c (.g (.fn 144)))]⟩,nt 5 4,m 2 5]<|
.ret⟩
theorem c89:cF Tryz.prog 89 F89=some F89:=by kernel_rfl
def F90:Zg:=⟨3,17,[.tmp 6],false,sr [0,1,5] [bx 5 2,mb 6 false]<|
sr [6] [m 7 0,ln 8 7,m 9 1,bt 10 .leq 8 9,m 11 10,mG 12 11 true 0,⟨some 13,some (11,true),.mkfn 146 [(.t 5)]⟩,k2G 14 11 true 145 12 13,nG 15 11 true 14,aN 16 11 15,m 6 16]<|
.ret⟩
theorem c90:cF Tryz.prog 90 F90=some F90:=by kernel_rfl
def F91:Zg:=⟨1,34,[.tmp 2],false,sr [1] [bx 1 0,mb 2 false]<|
sr [2] [fa 3 0 1,l1 4 3,fa 5 4 1,l1 6 5,k2 7 88 4 6,m 8 7,fG 9 8 true 1 1,lG 10 8 true 9,bcG 11 8 true .geq 10 1,aN 12 8 11,m 13 12,fG 14 13 true 1 1,lG 15 13 true 14,bcG 16 13 true .leq 15 4,aN 17 13 16,m 18 17,fG 19 18 true 2 1,lG 20 18 true 19,bcG 21 18 true .geq 20 1,aN 22 18 21,m 23 22,fG 24 23 true 2 1,lG 25 23 true 24,bcG 26 23 true .leq 25 3,aN 27 23 26,m 28 27,fG 29 28 true 3 1,lG 30 28 true 29,⟨some 31,some (28,true),.bslice 1 1 [i0] [(0,1,(.t 30))]⟩,k1G 32 28 true 89 31,aN 33 28 32,m 2 33]<|
.ret⟩
theorem c91:cF Tryz.prog 91 F91=some F91:=by kernel_rfl
def F92:Zg:=⟨3,17,[.tmp 6],false,sr [0,1,5] [bx 5 2,mb 6 false]<|
sr [6] [m 7 0,ln 8 7,m 9 1,bt 10 .leq 8 9,m 11 10,mG 12 11 true 0,⟨some 13,some (11,true),.mkfn 148 [(.t 5)]⟩,k2G 14 11 true 147 12 13,nG 15 11 true 14,aN 16 11 15,m 6 16]<|
.ret⟩
theorem c92:cF Tryz.prog 92 F92=some F92:=by kernel_rfl
def F93:Zg:=⟨1,14,[.tmp 2],false,sr [1] [bx 1 0,mb 2 false]<|
sr [2] [fa 3 1 1,l1 4 3,fa 5 2 1,l1 6 5,k2 7 88 4 6,m 8 7,fG 9 8 true 3 1,lG 10 8 true 9,⟨some 11,some (8,true),.bslice 1 1 [i0] [(0,1,(.t 10))]⟩,k1G 12 8 true 89 11,aN 13 8 12,m 2 13]<|
.ret⟩
theorem c93:cF Tryz.prog 93 F93=some F93:=by kernel_rfl
def Zkj:IC :=
 sr [0,1,7,8,9] [bt 9 .lss 8 7]<|
.seq (cd [0,1,7,8] 9 no (.exit 0))<|
.seq (.block [0,1,7,8] 1<|
sr [0,1,5,7,8] [m 10 8,m 5 10]<|
sr [0,1,5,7,8,16] [m 11 1,m 12 0,m 13 5,ia 14 11 12 13,la 15 11 14,⟨some 16,none,.call (.t 11) [(.t 15)]⟩]<|
cd [0,1,7,8] 16 (sr [4] [m 17 5,m 4 17]<|
.ret) no)<|
rg [0,1,7,8] [bc 18 .add 8 1,m 8 18]
def F94:Zg:=⟨2,19,[.tmp 4],false,sr [0,1] [mi 4 0]<|
.seq (sr [0,1,7,8] [m 6 0,ln 7 6,mi 8 0]<|
.block [] 0<|
.loop [0,1,7,8] [] Zkj)<|
sr [4] [mi 4 (-1)]<|
.ret⟩
theorem c94:cF Tryz.prog 94 F94=some F94:=by kernel_rfl
def F95:Zg:=⟨2,8,[.tmp 3],false,sr [1,2] [bx 2 0,mb 3 false]<|
.seq (.drw [3] 0<|tk (la 4 11 2)<|tk (la 6 2 1)<|.one (k1 5 96 4)<|tk ⟨some 7,none,.eqs false true [.i,.i] (.t 5) (.t 6)⟩<|.free<|tk (m 3 7)<|.leaf)<|
.ret⟩
theorem c95:cF Tryz.prog 95 F95=some F95:=by kernel_rfl
def F96:Zg:=⟨1,8,[.cell 2 true 2],false,sr [1,2] [bx 1 0,al 2 [zi,zi]]<|
sr [2] [fa 3 0 1,l1 4 3,fa 5 1 1,l1 6 5,⟨some 7,none,.build [gi,gi] [(0,1,(.t 4)),(1,1,(.t 6))]⟩,st 2 2 7]<|
.ret⟩
theorem c96:cF Tryz.prog 96 F96=some F96:=by kernel_rfl
def Zkk:IC :=
 sr [1,8,9,10,11] [bt 11 .lss 10 9]<|
.seq (cd [1,8,9,10] 11 no (.exit 0))<|
.seq (.block [1,8,9,10] 1<|
sr [1,6,8,9,10] [ia 12 2 8 10,la 13 2 12,al 6 [zi,zi],st 2 6 13]<|
sr [1,6,8,9,10,17] [fa 14 0 6,l1 15 14,m 16 1,bt 17 .eql 15 16]<|
cd [1,8,9,10] 17 (sr [4] [fa 18 1 6,l1 19 18,m 4 19]<|
.ret) no)<|
rg [1,8,9,10] [bc 20 .add 10 1,m 10 20]
def F97:Zg:=⟨2,21,[.tmp 4],false,sr [1,2] [bx 2 0,mi 4 0]<|
.seq (sr [1,8,9,10] [fa 7 1 2,l1 8 7,ln 9 8,mi 10 0]<|
.block [] 0<|
.loop [1,8,9,10] [] Zkk)<|
sr [4] [mi 4 (-1)]<|
.ret⟩
theorem c97:cF Tryz.prog 97 F97=some F97:=by kernel_rfl
def Zkl:IC :=
 sr [1,3,10,11,12,13] [bt 13 .lss 12 11]<|
.seq (cd [1,3,10,11,12] 13 no (.exit 0))<|
.seq (.block [1,3,10,11,12] 1<|
sr [1,3,5,10,11,12] [ia 14 11 10 12,la 15 11 14,al 5 [zi,zi,zi,zi,zi,zi,zi,zi,zb,.s 6,.s 8],st 11 5 15]<|
rg [1,3,10,11,12] [m 16 3,fa 17 0 5,l1 18 17,⟨none,none,.mset .i (.t 16) (.t 18) (.c (.g (.bool true)))⟩])<|
rg [1,3,10,11,12] [bc 19 .add 12 1,m 12 19]
def Zkm:IC :=
 sr [3,21,22,23,24] [bt 24 .lss 23 22]<|
.seq (cd [3,21,22,23] 24 no (.exit 2))<|
.seq (.block [3,21,22,23] 3<|
sr [3,7,21,22,23] [ia 25 2 21 23,la 26 2 25,al 7 [zi,zi],st 2 7 26]<|
rg [3,21,22,23] [m 27 3,fa 28 0 7,l1 29 28,⟨none,none,.mset .i (.t 27) (.t 29) (.c (.g (.bool true)))⟩])<|
rg [3,21,22,23] [bc 30 .add 23 1,m 23 30]
def F98:Zg:=⟨1,34,[.tmp 2],false,sr [1] [bx 1 0,nr 2 1]<|
sr [1,3] [⟨some 8,none,.mkmap⟩,m 3 8]<|
.seq (sr [1,3,10,11,12] [fa 9 0 1,l1 10 9,ln 11 10,mi 12 0]<|
.block [1,3] 0<|
.loop [1,3,10,11,12] [] Zkl)<|
.seq (sr [3,21,22,23] [fa 20 1 1,l1 21 20,ln 22 21,mi 23 0]<|
.block [3] 2<|
.loop [3,21,22,23] [] Zkm)<|
sr [2] [m 31 3,k1 32 150 31,k1 33 149 32,m 2 33]<|
.ret⟩
theorem c98:cF Tryz.prog 98 F98=some F98:=by kernel_rfl
def F99:Zg:=⟨2,9,[.tmp 4],false,sr [0,1] [mb 4 false]<|
sr [4] [m 5 0,m 6 1,k2 7 151 5 6,bc 8 .geq 7 0,m 4 8]<|
.ret⟩
theorem c99:cF Tryz.prog 99 F99=some F99:=by kernel_rfl
def Zv8:Zg:=⟨2,37,[.tmp 4],false,sr [0,3] [bx 3 1,mi 4 0]<|
.seq (.drw [0,3,5,6] 0<|tk (m 8 0)<|tk (nc 9 8)<|tk (fa 10 0 9)<|tk (fa 11 0 10)<|tk (la 12 4 11)<|tk (fa 13 7 3)<|tk (l1 14 13)<|.one (k2 15 31 12 14)<|tk (m 7 15)<|tk (ex 16 0 7)<|tk (ex 17 1 7)<|.free<|tk (m 5 16)<|tk (m 6 17)<|.leaf)<|
.seq (.drw [6] 0<|tk (m 18 0)<|tk (m 19 0)<|tk (m 20 5)<|tk (fa 21 4 3)<|tk (l1 22 21)<|tk (m 24 0)<|tk (nc 25 24)<|tk (fa 26 0 25)<|tk (fa 27 0 26)<|tk (fa 28 0 27)<|tk (l1 29 28)<|.one (k2 23 152 20 22)<|.free<|tk (nc 30 18)<|tk (fa 31 9 30)<|tk (fa 32 7 31)<|.one (st 1 32 23)<|tk (nc 33 19)<|tk (fa 34 9 33)<|tk (fa 35 3 34)<|.one (st 1 35 29)<|.leaf)<|
sr [4] [m 36 6,m 4 36]<|
.ret⟩
theorem Z62:cF Tryz.prog 100 Zv8=some Zv8:=by kernel_rfl
def Fu:IC :=
 sr [0,3,18,19,20,21] [bt 21 .lss 20 19]<|
.seq (cd [0,3,18,19,20] 21 no (.exit 0))<|
.seq (.block [0,3,18,19,20] 1<|
sr [0,3,6,18,19,20] [ia 22 4 18 20,la 23 4 22,al 6 [zb,zs,zs,zi],st 4 6 23]<|
.seq (.drw [0,3,18,19,20,42] 0<|tk (fa 24 0 6)<|tk (l1 25 24)<|tk (nt 26 25)<|tk (m 27 26)<|tk (fG 28 27 true 3 6)<|tk (lG 29 27 true 28)<|tk (bcG 30 27 true .neq 29 0)<|tk (aN 31 27 30)<|tk (m 32 31)<|tk (mG 33 32 true 0)<|tk ⟨some 34,some (32,true),.nilchk (.t 33)⟩<|tk (fG 35 32 true 0 34)<|tk (fG 36 32 true 4 35)<|tk (laG 37 32 true 2 36)<|tk (fG 38 32 true 3 6)<|tk (lG 39 32 true 38)<|.one (k2G 40 32 true 62 37 39)<|tk (nG 41 32 true 40)<|tk (aN 42 32 41)<|.leaf)<|
cd [0,3,18,19,20] 42 (sr [4] [mi 4 6]<|
.ret) no)<|
rg [0,3,18,19,20] [bc 43 .add 20 1,m 20 43]
def Zv9:Zg:=⟨2,74,[.tmp 4],false,sr [0,3] [bx 3 1,mi 4 0]<|
.seq (sr [0,3,18,19,20] [fa 11 10 3,fa 12 1 11,l1 13 12,fa 14 10 3,fa 15 2 14,l1 16 15,⟨some 17,none,.bslice 1 2 [.nsl] [(0,1,(.t 13)),(1,1,(.t 16))]⟩,k1 18 153 17,ln 19 18,mi 20 0]<|
.block [0,3] 0<|
.loop [0,3,18,19,20] [] Fu)<|
.seq (.drw [0,7,8,10] 1<|tk (m 45 0)<|tk (nc 46 45)<|tk (fa 47 0 46)<|tk (fa 48 0 47)<|tk (la 49 4 48)<|tk (fa 50 10 3)<|tk (la 51 3 50)<|
.alt (k2 52 154 49 51) (tk (m 44 52)<|tk (ex 53 0 44)<|tk (ex 54 1 44)<|tk (ex 55 2 44)<|tk (ex 56 3 44)<|.one (aa 7 0 [zi,zi,.s 6,.s 8])<|.free<|.one (st 4 7 53)<|tk (m 8 54)<|tk (m 9 55)<|tk (m 10 56)<|.leaf) (.one (aa 7 0 [zi,zi,.s 6,.s 8])<|.one (k2 52 154 49 51)<|tk (m 44 52)<|tk (ex 53 0 44)<|tk (ex 54 1 44)<|tk (ex 55 2 44)<|tk (ex 56 3 44)<|.free<|.one (st 4 7 53)<|tk (m 8 54)<|tk (m 9 55)<|tk (m 10 56)<|.leaf))<|
.seq (.drw [10] 0<|tk (m 57 0)<|tk (m 58 0)<|tk (m 59 0)<|tk (la 60 4 7)<|tk (m 61 8)<|tk (fa 62 0 7)<|tk (l1 63 62)<|tk (nc 64 57)<|tk (fa 65 0 64)<|tk (fa 66 0 65)<|.one (st 4 66 60)<|tk (nc 67 58)<|tk (fa 68 9 67)<|tk (fa 69 6 68)<|.one (st 1 69 61)<|.free<|tk (nc 70 59)<|tk (fa 71 9 70)<|tk (fa 72 3 71)<|.one (st 1 72 63)<|.leaf)<|
sr [4] [m 73 10,m 4 73]<|
.ret⟩
theorem Z63:cF Tryz.prog 101 Zv9=some Zv9:=by kernel_rfl
def Zwa:Zg:=⟨2,33,[.tmp 4],false,sr [0,3] [bx 3 1,mi 4 0]<|
.seq (.drw [0,5,6,7] 0<|tk (m 9 0)<|tk (nc 10 9)<|tk (fa 11 0 10)<|tk (fa 12 0 11)<|tk (la 13 4 12)<|tk (fa 14 4 3)<|tk (l1 15 14)<|tk (fa 16 7 3)<|tk (l1 17 16)<|.one ⟨some 18,none,.call (.c (.g (.fn 155))) [(.t 13),(.t 15),(.t 17),(.c (.g (.int .i64 30)))]⟩<|tk (m 8 18)<|tk (ex 19 0 8)<|tk (ex 20 1 8)<|tk (ex 21 2 8)<|.free<|tk (m 5 19)<|tk (m 6 20)<|tk (m 7 21)<|.leaf)<|
sr [7] [m 22 0,m 23 0,m 24 5,m 25 6,nc 26 22,fa 27 9 26,fa 28 8 27,st 1 28 24,nc 29 23,fa 30 9 29,fa 31 3 30,st 1 31 25]<|
sr [4] [m 32 7,m 4 32]<|
.ret⟩
theorem Z64:cF Tryz.prog 102 Zwa=some Zwa:=by kernel_rfl
def Zwb:Zg:=⟨2,42,[.tmp 4],false,sr [0,3] [bx 3 1,mi 4 0]<|
.seq (.drw [0,3,5,6,7] 1<|tk (m 9 0)<|tk (nc 10 9)<|tk (fa 11 0 10)<|tk (fa 12 4 11)<|tk (la 13 2 12)<|tk (fa 14 8 3)<|tk (l1 15 14)<|tk (m 16 0)<|tk (nc 17 16)<|tk (fa 18 0 17)<|tk (fa 19 8 18)<|tk (l1 20 19)<|
.alt (k3 21 156 13 15 20) (tk (m 8 21)<|tk (ex 22 0 8)<|tk (ex 23 1 8)<|tk (ex 24 2 8)<|.one (aa 5 0 [zi,.s 3])<|.free<|.one (st 2 5 22)<|tk (m 6 23)<|tk (m 7 24)<|.leaf) (.one (aa 5 0 [zi,.s 3])<|.one (k3 21 156 13 15 20)<|tk (m 8 21)<|tk (ex 22 0 8)<|tk (ex 23 1 8)<|tk (ex 24 2 8)<|.free<|.one (st 2 5 22)<|tk (m 6 23)<|tk (m 7 24)<|.leaf))<|
.seq (.drw [7] 0<|tk (m 25 0)<|tk (m 26 0)<|tk (m 27 0)<|tk (la 28 2 5)<|tk (m 29 6)<|tk (fa 30 8 3)<|tk (l1 31 30)<|tk (nc 32 25)<|tk (fa 33 0 32)<|tk (fa 34 4 33)<|.one (st 2 34 28)<|tk (nc 35 26)<|tk (fa 36 9 35)<|tk (fa 37 4 36)<|.one (st 1 37 29)<|.free<|tk (nc 38 27)<|tk (fa 39 9 38)<|tk (fa 40 5 39)<|.one (st 1 40 31)<|.leaf)<|
sr [4] [m 41 7,m 4 41]<|
.ret⟩
theorem Z65:cF Tryz.prog 103 Zwb=some Zwb:=by kernel_rfl
def Zwc:Zg:=⟨2,42,[.tmp 4],false,sr [0,3] [bx 3 1,mi 4 0]<|
.seq (.drw [0,3,5,6,7] 1<|tk (m 9 0)<|tk (nc 10 9)<|tk (fa 11 0 10)<|tk (fa 12 4 11)<|tk (la 13 2 12)<|tk (fa 14 6 3)<|tk (l1 15 14)<|tk (m 16 0)<|tk (nc 17 16)<|tk (fa 18 0 17)<|tk (fa 19 8 18)<|tk (l1 20 19)<|
.alt (k3 21 157 13 15 20) (tk (m 8 21)<|tk (ex 22 0 8)<|tk (ex 23 1 8)<|tk (ex 24 2 8)<|.one (aa 5 0 [zi,.s 3])<|.free<|.one (st 2 5 22)<|tk (m 6 23)<|tk (m 7 24)<|.leaf) (.one (aa 5 0 [zi,.s 3])<|.one (k3 21 157 13 15 20)<|tk (m 8 21)<|tk (ex 22 0 8)<|tk (ex 23 1 8)<|tk (ex 24 2 8)<|.free<|.one (st 2 5 22)<|tk (m 6 23)<|tk (m 7 24)<|.leaf))<|
.seq (.drw [7] 0<|tk (m 25 0)<|tk (m 26 0)<|tk (m 27 0)<|tk (la 28 2 5)<|tk (fa 29 6 3)<|tk (l1 30 29)<|tk (m 31 6)<|tk (nc 32 25)<|tk (fa 33 0 32)<|tk (fa 34 4 33)<|.one (st 2 34 28)<|.free<|tk (nc 35 26)<|tk (fa 36 9 35)<|tk (fa 37 4 36)<|.one (st 1 37 30)<|tk (nc 38 27)<|tk (fa 39 9 38)<|tk (fa 40 5 39)<|.one (st 1 40 31)<|.leaf)<|
sr [4] [m 41 7,m 4 41]<|
.ret⟩
theorem Z66:cF Tryz.prog 104 Zwc=some Zwc:=by kernel_rfl
def Zwd:Zg:=⟨2,35,[.tmp 4],false,sr [0,3] [bx 3 1,mi 4 0]<|
.seq (.drw [0,3,5,6] 1<|tk (m 8 0)<|tk (nc 9 8)<|tk (fa 10 0 9)<|tk (la 11 9 10)<|tk (fa 12 6 3)<|tk (l1 13 12)<|
.alt (k2 14 25 11 13) (tk (m 7 14)<|tk (ex 15 0 7)<|tk (ex 16 1 7)<|.one (aa 5 0 zS)<|.free<|.one (st 9 5 15)<|tk (m 6 16)<|.leaf) (.one (aa 5 0 zS)<|.one (k2 14 25 11 13)<|tk (m 7 14)<|tk (ex 15 0 7)<|tk (ex 16 1 7)<|.free<|.one (st 9 5 15)<|tk (m 6 16)<|.leaf))<|
.seq (.drw [6] 0<|tk (m 17 0)<|tk (m 18 0)<|tk (m 19 0)<|tk (la 20 9 5)<|tk (fa 21 6 3)<|tk (l1 22 21)<|tk (fa 23 0 5)<|tk (fa 24 0 23)<|tk (l1 25 24)<|tk (nc 26 17)<|tk (fa 27 0 26)<|.one (st 9 27 20)<|tk (nc 28 18)<|tk (fa 29 9 28)<|tk (fa 30 4 29)<|.one (st 1 30 22)<|.free<|tk (nc 31 19)<|tk (fa 32 9 31)<|tk (fa 33 3 32)<|.one (st 1 33 25)<|.leaf)<|
sr [4] [m 34 6,m 4 34]<|
.ret⟩
theorem Z67:cF Tryz.prog 105 Zwd=some Zwd:=by kernel_rfl
end
end Go.Proofs.YtndfdnlbljhlgaaGreat
