/- The compiled functions of the seat, part IRg2. No conditions. -/
import Derived.Test.YtndfdnlbljhlgaaGreatAMJ4
import Derived.Test.YtndfdnlbljhlgaaGreatProg
import Derived.KernelRfl
namespace Go.Proofs.YtndfdnlbljhlgaaGreat
open Go Go.AM Go.Proofs Go.IR
noncomputable section
def F47:IFunc:=⟨4,68,[.cell 8 true 2,.tmp 9],false,.seq (rg [2,4,5,7,8] [bx 4 0,bx 5 1,bx 7 3,⟨some 8,none,.alloc [.s 11,.s 2]⟩,mi 9 0]) <|
 .seq (rg [2,4,5,7,8,11,12] [la 16 2 4,l1 17 5,m 18 2,k3 19 45 16 17 18,m 15 19,ex 20 0 15,ex 21 1 15,ex 22 2 15,⟨some 10,none,.alloc [zi,zi,zi,zi,zi,zi,zb,.s 6,.s 8]⟩,st 9 10 20,m 11 21,m 12 22]) <|
 .seq (.block [2,4,5,7,8] 0 <|
 .seq (rg [2,4,5,7,8,12,23] [m 24 11,m 23 24]) <|
 .cond [2,4,5,7,8] (.t 23) (.seq (rg [8,9] [la 25 2 4,st 2 8 25,mi 9 11]) <|
 .ret) (.seq (rg [2,4,5,7,8,12,26] [m 27 12,bc 28 .neq 27 0,m 26 28]) <|
 .cond [2,4,5,7,8] (.t 26) (.seq (rg [8,9] [la 29 2 4,m 30 12,st 2 8 29,m 9 30]) <|
 .ret) (.skip))) <|
 .seq (rg [4,5,8] [fa 31 0 4,l1 32 31,l1 33 5,m 34 2,la 35 9 7,⟨some 36,none,.build [gi,gi,gi,gi,gi,gi,gi,gi,gb,gn,gn] [(0,1,(.t 33)),(1,1,(.t 34)),(2,9,(.t 35))]⟩,⟨some 37,none,.bslice 11 1 [i0,i0,i0,i0,i0,i0,i0,i0,b0,.nsl,.nsl] [(0,11,(.t 36))]⟩,⟨some 38,none,.bslice 1 2 [.nsl] [(0,1,(.t 32)),(1,1,(.t 37))]⟩,k1 39 107 38,fa 40 0 4,st 1 40 39]) <|
 .seq (rg [4,5,8,13] [la 41 2 4,l1 42 5,k2 43 108 41 42,⟨some 13,none,.alloc [.s 1]⟩,st 1 13 43]) <|
 .seq (.seq (rg [4,5,8,13,46] [l1 44 13,ln 45 44,bc 46 .leq 45 4]) <|
 .cond [4,5,8,13] (.t 46) (.seq (rg [8,9] [la 47 2 4,st 2 8 47,mi 9 0]) <|
 .ret) (.skip)) <|
 .seq (rg [4,5,8,13,14] [fa 48 0 4,l1 49 48,⟨some 50,none,.mkfn 109 [(.t 5),(.t 13)]⟩,k2 51 94 49 50,m 14 51]) <|
 .seq (rg [4,5,8,13] [fa 52 0 4,l1 53 52,m 54 14,m 55 14,bc 56 .add 55 1,k3 57 110 53 54 56,fa 58 0 4,st 1 58 57]) <|
 .seq (.drw [4,8] 0 <|tk (fa 59 1 4) <|tk (l1 60 59) <|tk (l1 61 5) <|tk (l1 62 13) <|tk ⟨some 63,none,.iaddr 1 (.t 62) (.c (.g (.int .i64 0)))⟩ <|tk (l1 64 63) <|.one (k3 65 111 60 61 64) <|.free <|tk (fa 66 1 4) <|.one (st 1 66 65) <|.leaf) <|
 .seq (rg [8,9] [la 67 2 4,st 2 8 67,mi 9 0]) <|
 .ret⟩
theorem c47:cFunc Tryz.prog 47 false (hintC F47.body)=some F47:=by kernel_rfl
def F48:IFunc:=⟨0,2,[.cell 0 true 4],false,.seq (rg [0] [⟨some 0,none,.alloc [zi,zi,.s 6,.s 8]⟩]) <|
 .seq (rg [0] [⟨some 1,none,.build [gi,gi,gn,gn] []⟩,st 4 0 1]) <|
 .ret⟩
theorem c48:cFunc Tryz.prog 48 false (hintC F48.body)=some F48:=by kernel_rfl
def F49:IFunc:=⟨1,5,[.cell 2 true 5],false,.seq (rg [0,2] [⟨some 2,none,.alloc [zs,zi,zi,zi,zs]⟩]) <|
 .seq (rg [2] [m 3 0,⟨some 4,none,.build [gs,gi,gi,gi,gs] [(0,1,(.t 3)),(1,1,(.c (.g (.int .i64 1)))),(2,1,(.c (.g (.int .i64 1))))]⟩,st 5 2 4]) <|
 .ret⟩
theorem c49:cFunc Tryz.prog 49 false (hintC F49.body)=some F49:=by kernel_rfl
def L50_0:IC :=
 .seq (rg [0,2,11,12,13,14] [bt 14 .lss 13 12]) <|
 .seq (.cond [0,2,11,12,13] (.t 14) (.skip) (.exit 0)) <|
 .seq (.block [0,2,11,12,13] 1 <|
 .seq (rg [0,2,8,11,12,13] [ia 15 8 11 13,la 16 8 15,⟨some 8,none,.alloc [zi,zb,zs,zs,zi,zi,zi,zi]⟩,st 8 8 16]) <|
 .block [0,2,11,12,13] 2 <|
 .seq (rg [0,2,8,11,12,13,21] [fa 22 0 8,l1 23 22,m 24 2,bt 25 .gtr 23 24,m 21 25]) <|
 .cond [0,2,11,12,13] (.t 21) (.skip) (.seq (rg [0,2,8,11,12,13,26] [fa 27 1 8,l1 28 27,m 26 28]) <|
 .cond [0,2,11,12,13] (.t 26) (rg [0,2,11,12,13] [m 29 0,fa 30 2 8,fa 31 0 30,l1 32 31,k2 33 113 29 32,m 0 33]) (rg [0,2,11,12,13] [m 17 0,fa 18 2 8,la 19 6 18,k2 20 114 17 19,m 0 20]))) <|
 rg [0,2,11,12,13] [bc 34 .add 13 1,m 13 34]
def F50:IFunc:=⟨3,36,[.tmp 6],false,.seq (rg [0,1,2] [nr 6 6]) <|
 .seq (rg [0,1,2] [m 9 0,k1 10 112 9,m 0 10]) <|
 .seq (.seq (rg [0,2,11,12,13] [m 11 1,ln 12 11,mi 13 0]) <|
 .block [0] 0 <|
 .loop [0,2,11,12,13] [] L50_0) <|
 .seq (rg [6] [m 35 0,m 6 35]) <|
 .ret⟩
theorem c50:cFunc Tryz.prog 50 false (hintC F50.body)=some F50:=by kernel_rfl
def L54_0:IC :=
 .seq (.seq (rg [0,1,5,14] [m 11 5,m 12 0,ln 13 12,bt 14 .lss 11 13]) <|
 .cond [0,1,5] (.t 14) (.skip) (.exit 0)) <|
 .seq (.block [0,1,5] 1 <|
 .seq (.drw [0,1,5,25] 0 <|tk (m 17 0) <|tk (m 18 5) <|tk (ia 19 6 17 18) <|tk (la 20 6 19) <|tk (m 21 1) <|tk (m 22 5) <|tk (ia 23 6 21 22) <|tk (la 24 6 23) <|.free <|tk ⟨some 25,none,.eqs true true [.s,.s,.i,.i,.i,.i] (.t 20) (.t 24)⟩ <|.leaf) <|
 .cond [0,1,5] (.t 25) (.seq (rg [4] [mb 4 false]) <|
 .ret) (.skip)) <|
 rg [0,1,5] [m 15 5,bc 16 .add 15 1,m 5 16]
def F54:IFunc:=⟨2,26,[.tmp 4],false,.seq (rg [0,1] [mb 4 false]) <|
 .seq (.seq (rg [0,1,10] [m 6 0,ln 7 6,m 8 1,ln 9 8,bt 10 .neq 7 9]) <|
 .cond [0,1] (.t 10) (.seq (rg [4] [mb 4 false]) <|
 .ret) (.skip)) <|
 .seq (.seq (rg [0,1,5] [mi 5 0]) <|
 .block [] 0 <|
 .loop [0,1,5] [] L54_0) <|
 .seq (rg [4] [mb 4 true]) <|
 .ret⟩
theorem c54:cFunc Tryz.prog 54 false (hintC F54.body)=some F54:=by kernel_rfl
def L55_0:IC :=
 .seq (.seq (rg [0,1,5,14] [m 11 5,m 12 0,ln 13 12,bt 14 .lss 11 13]) <|
 .cond [0,1,5] (.t 14) (.skip) (.exit 0)) <|
 .seq (.block [0,1,5] 1 <|
 .seq (.drw [0,1,5,25] 0 <|tk (m 17 0) <|tk (m 18 5) <|tk (ia 19 8 17 18) <|tk (la 20 8 19) <|tk (m 21 1) <|tk (m 22 5) <|tk (ia 23 8 21 22) <|tk (la 24 8 23) <|.free <|tk ⟨some 25,none,.eqs true true [.i,.b,.s,.s,.i,.i,.i,.i] (.t 20) (.t 24)⟩ <|.leaf) <|
 .cond [0,1,5] (.t 25) (.seq (rg [4] [mb 4 false]) <|
 .ret) (.skip)) <|
 rg [0,1,5] [m 15 5,bc 16 .add 15 1,m 5 16]
def F55:IFunc:=⟨2,26,[.tmp 4],false,.seq (rg [0,1] [mb 4 false]) <|
 .seq (.seq (rg [0,1,10] [m 6 0,ln 7 6,m 8 1,ln 9 8,bt 10 .neq 7 9]) <|
 .cond [0,1] (.t 10) (.seq (rg [4] [mb 4 false]) <|
 .ret) (.skip)) <|
 .seq (.seq (rg [0,1,5] [mi 5 0]) <|
 .block [] 0 <|
 .loop [0,1,5] [] L55_0) <|
 .seq (rg [4] [mb 4 true]) <|
 .ret⟩
theorem c55:cFunc Tryz.prog 55 false (hintC F55.body)=some F55:=by kernel_rfl
def L56_0:IC :=
 .seq (rg [1,3,4,50,51,52,53] [bt 53 .lss 52 51]) <|
 .seq (.cond [1,3,4,50,51,52] (.t 53) (.skip) (.exit 0)) <|
 .seq (.block [1,3,4,50,51,52] 1 <|
 .seq (rg [1,3,4,6,50,51,52] [ia 54 8 50 52,la 55 8 54,⟨some 6,none,.alloc [zi,zb,zs,zs,zi,zi,zi,zi]⟩,st 8 6 55]) <|
 .seq (.seq (rg [1,3,6,50,51,52,72] [fa 56 0 6,l1 57 56,m 58 4,bt 59 .lss 57 58,m 60 59,fG 61 60 false 0 6,lG 62 60 false 61,fG 63 60 false 0 1,lG 64 60 false 63,btG 65 60 false .gtr 62 64,oR 66 60 65,m 67 66,mG 68 67 false 3,laG 69 67 false 8 6,k2G 70 67 false 125 68 69,nG 71 67 false 70,oR 72 67 71]) <|
 .cond [1,3,6,50,51,52] (.t 72) (.seq (rg [2] [mb 2 false]) <|
 .ret) (.skip)) <|
 .seq (.drw [1,3,4,50,51,52] 0 <|tk (m 73 3) <|tk (la 74 8 6) <|tk (fa 76 0 6) <|tk (l1 77 76) <|tk (fa 79 0 6) <|tk (l1 80 79) <|.one ⟨some 75,none,.bslice 8 1 [i0,b0,s0,s0,i0,i0,i0,i0] [(0,8,(.t 74))]⟩ <|.one (k3 78 50 73 75 77) <|tk (m 3 78) <|.free <|tk (m 4 80) <|.leaf) <|
 .seq (rg [1,3,4,50,51,52,83] [m 81 3,ln 82 81,bc 83 .gtr 82 30]) <|
 .cond [1,3,4,50,51,52] (.t 83) (.seq (rg [2] [mb 2 false]) <|
 .ret) (.skip)) <|
 rg [1,3,4,50,51,52] [bc 84 .add 52 1,m 52 84]
def F56:IFunc:=⟨1,85,[.tmp 2],false,.seq (rg [1] [bx 1 0,mb 2 false]) <|
 .seq (.seq (rg [1,39] [fa 7 1 1,l1 8 7,bc 9 .lss 8 0,m 10 9,fG 11 10 false 1 1,lG 12 10 false 11,fG 13 10 false 0 1,lG 14 10 false 13,btG 15 10 false .gtr 12 14,oR 16 10 15,m 17 16,fG 18 17 false 0 1,lG 19 17 false 18,bcG 20 17 false .gtr 19 1099511627774,oR 21 17 20,m 22 21,fG 23 22 false 2 1,lG 24 22 false 23,lnG 25 22 false 24,bcG 26 22 false .gtr 25 30,oR 27 22 26,m 28 27,fG 29 28 false 3 1,lG 30 28 false 29,lnG 31 28 false 30,bcG 32 28 false .gtr 31 60,oR 33 28 32,m 34 33,fG 35 34 false 2 1,lG 36 34 false 35,k1G 37 34 false 123 36,nG 38 34 false 37,oR 39 34 38]) <|
 .cond [1] (.t 39) (.seq (rg [2] [mb 2 false]) <|
 .ret) (.skip)) <|
 .seq (.seq (rg [1,43] [fa 40 2 1,l1 41 40,⟨some 42,none,.mkfn 124 [(.t 1)]⟩,k2 43 60 41 42]) <|
 .cond [1] (.t 43) (.seq (rg [2] [mb 2 false]) <|
 .ret) (.skip)) <|
 .seq (.drw [1,3,4] 0 <|tk (fa 44 2 1) <|tk (l1 45 44) <|tk (fa 46 1 1) <|tk (l1 47 46) <|tk (bc 48 .add 47 1) <|tk (m 3 45) <|.free <|tk (m 4 48) <|.leaf) <|
 .seq (.seq (rg [1,3,4,50,51,52] [fa 49 3 1,l1 50 49,ln 51 50,mi 52 0]) <|
 .block [] 0 <|
 .loop [1,3,4,50,51,52] [] L56_0) <|
 .seq (rg [2] [mb 2 true]) <|
 .ret⟩
theorem c56:cFunc Tryz.prog 56 false (hintC F56.body)=some F56:=by kernel_rfl
def L57_0:IC :=
 .seq (rg [1,3,17,18,19,20] [bt 20 .lss 19 18]) <|
 .seq (.cond [1,3,17,18,19] (.t 20) (.skip) (.exit 0)) <|
 .seq (.block [1,3,17,18,19] 1 <|
 .seq (rg [1,3,5,17,18,19] [ia 21 3 17 19,la 22 3 21,⟨some 5,none,.alloc [zi,zi,zi]⟩,st 3 5 22]) <|
 .seq (.seq (rg [1,5,17,18,19,58] [fa 23 0 5,l1 24 23,m 25 3,bt 26 .leq 24 25,m 27 26,fG 28 27 false 0 5,lG 29 27 false 28,fG 30 27 false 0 1,lG 31 27 false 30,btG 32 27 false .gtr 29 31,oR 33 27 32,m 34 33,fG 35 34 false 1 5,lG 36 34 false 35,bcG 37 34 false .lss 36 1,oR 38 34 37,m 39 38,fG 40 39 false 1 5,lG 41 39 false 40,bcG 42 39 false .gtr 41 1000,oR 43 39 42,m 44 43,fG 45 44 false 2 5,lG 46 44 false 45,bcG 47 44 false .lss 46 0,oR 48 44 47,m 49 48,fG 50 49 false 2 5,lG 51 49 false 50,fG 52 49 false 1 5,lG 53 49 false 52,btG 54 49 false .sub 51 53,⟨some 55,some (49,false),.mx (.c (.g (.int .i64 0))) [(.t 54)]⟩,k1G 56 49 false 126 55,nG 57 49 false 56,oR 58 49 57]) <|
 .cond [1,5,17,18,19] (.t 58) (.seq (rg [2] [mb 2 false]) <|
 .ret) (.skip)) <|
 rg [1,3,17,18,19] [fa 59 0 5,l1 60 59,m 3 60]) <|
 rg [1,3,17,18,19] [bc 61 .add 19 1,m 19 61]
def F57:IFunc:=⟨1,62,[.tmp 2],false,.seq (rg [1] [bx 1 0,mb 2 false]) <|
 .seq (.seq (rg [1,15] [fa 6 0 1,l1 7 6,k1 8 126 7,nt 9 8,m 10 9,fG 11 10 false 1 1,lG 12 10 false 11,lnG 13 10 false 12,bcG 14 10 false .gtr 13 8,oR 15 10 14]) <|
 .cond [1] (.t 15) (.seq (rg [2] [mb 2 false]) <|
 .ret) (.skip)) <|
 .seq (rg [1,3] [mi 3 0]) <|
 .seq (.seq (rg [1,3,17,18,19] [fa 16 1 1,l1 17 16,ln 18 17,mi 19 0]) <|
 .block [] 0 <|
 .loop [1,3,17,18,19] [] L57_0) <|
 .seq (rg [2] [mb 2 true]) <|
 .ret⟩
theorem c57:cFunc Tryz.prog 57 false (hintC F57.body)=some F57:=by kernel_rfl
def L58_0:IC :=
 .seq (rg [1,3,4,5,18,19,20,21] [bt 21 .lss 20 19]) <|
 .seq (.cond [1,3,4,5,18,19,20] (.t 21) (.skip) (.exit 0)) <|
 .seq (.block [1,3,4,5,18,19,20] 1 <|
 .seq (rg [1,3,4,5,7,18,19,20] [ia 22 2 18 20,la 23 2 22,⟨some 7,none,.alloc [zi,zi]⟩,st 2 7 23]) <|
 .seq (.seq (rg [1,3,4,5,7,9,18,19,20] [m 25 3,fa 26 0 7,l1 27 26,⟨some 28,none,.mget true .i (some (.int .i64 0)) (.t 25) (.t 27)⟩,m 24 28,ex 29 0 24,ex 30 1 24,m 8 29,m 9 30]) <|
 .seq (rg [1,3,4,5,7,18,19,20,31] [m 31 9]) <|
 .cond [1,3,4,5,7,18,19,20] (.t 31) (.seq (rg [2] [mb 2 false]) <|
 .ret) (.skip)) <|
 rg [1,3,4,5,18,19,20] [m 32 3,fa 33 0 7,l1 34 33,fa 35 1 7,l1 36 35,⟨none,none,.mset .i (.t 32) (.t 34) (.t 36)⟩]) <|
 rg [1,3,4,5,18,19,20] [bc 37 .add 20 1,m 20 37]
def L58_1:IC :=
 .seq (rg [1,3,4,5,39,40,41,42] [bt 42 .lss 41 40]) <|
 .seq (.cond [1,3,4,5,39,40,41] (.t 42) (.skip) (.exit 2)) <|
 .seq (.block [1,3,4,5,39,40,41] 3 <|
 .seq (rg [1,3,4,5,11,39,40,41] [ia 43 11 39 41,la 44 11 43,⟨some 11,none,.alloc [zi,zi,zi,zi,zi,zi,zi,zi,zb,.s 6,.s 8]⟩,st 11 11 44]) <|
 .seq (rg [1,3,4,5,11,12,13,39,40,41] [m 46 3,fa 47 0 11,l1 48 47,⟨some 49,none,.mget true .i (some (.int .i64 0)) (.t 46) (.t 48)⟩,m 45 49,ex 50 0 45,ex 51 1 45,m 12 50,m 13 51]) <|
 .seq (.seq (rg [1,3,4,5,11,39,40,41,64] [m 52 4,la 53 11 11,k1 54 96 53,⟨some 55,none,.mget2 false [.i,.i] (some (.bool false)) (.t 52) (.t 54)⟩,m 56 55,mG 57 56 false 13,mG 58 56 false 57,fG 59 58 true 1 11,lG 60 58 true 59,mG 61 58 true 12,btG 62 58 true .leq 60 61,⟨some 63,some (56,false),.pick (.t 58) (.t 62) (.c (.g (.bool false)))⟩,oR 64 56 63]) <|
 .cond [1,3,4,5,11,39,40,41] (.t 64) (.seq (rg [2] [mb 2 false]) <|
 .ret) (.skip)) <|
 .seq (rg [1,3,4,5,11,39,40,41] [m 65 4,la 66 11 11,k1 67 96 66,⟨none,none,.mset2 [.i,.i] (.t 65) (.t 67) (.c (.g (.bool true)))⟩]) <|
 .seq (rg [1,3,4,5,11,39,40,41] [m 68 5,fa 69 0 11,l1 70 69,⟨some 71,none,.mget false .i (some (.int .i64 0)) (.t 68) (.t 70)⟩,bc 72 .add 71 1,⟨none,none,.mset .i (.t 68) (.t 70) (.t 72)⟩]) <|
 .seq (rg [1,3,4,5,39,40,41,77] [m 73 5,fa 74 0 11,l1 75 74,⟨some 76,none,.mget false .i (some (.int .i64 0)) (.t 73) (.t 75)⟩,bc 77 .gtr 76 4]) <|
 .cond [1,3,4,5,39,40,41] (.t 77) (.seq (rg [2] [mb 2 false]) <|
 .ret) (.skip)) <|
 rg [1,3,4,5,39,40,41] [bc 78 .add 41 1,m 41 78]
def F58:IFunc:=⟨1,83,[.tmp 2],false,.seq (rg [1] [bx 1 0,mb 2 false]) <|
 .seq (rg [1,3,4,5] [⟨some 14,none,.mkmap⟩,⟨some 15,none,.mkmap2⟩,⟨some 16,none,.mkmap⟩,m 3 14,m 4 15,m 5 16]) <|
 .seq (.seq (rg [1,3,4,5,18,19,20] [fa 17 1 1,l1 18 17,ln 19 18,mi 20 0]) <|
 .block [1,3,4,5] 0 <|
 .loop [1,3,4,5,18,19,20] [] L58_0) <|
 .seq (.seq (rg [1,3,4,5,39,40,41] [fa 38 0 1,l1 39 38,ln 40 39,mi 41 0]) <|
 .block [1] 2 <|
 .loop [1,3,4,5,39,40,41] [] L58_1) <|
 .seq (rg [2] [la 79 2 1,k1 80 98 79,ln 81 80,bc 82 .leq 81 8,m 2 82]) <|
 .ret⟩
theorem c58:cFunc Tryz.prog 58 false (hintC F58.body)=some F58:=by kernel_rfl
def F59:IFunc:=⟨1,34,[.tmp 2],false,.seq (rg [1] [bx 1 0,mb 2 false]) <|
 .seq (.seq (rg [1,25] [fa 3 0 1,l1 4 3,bc 5 .lss 4 0,m 6 5,fG 7 6 false 0 1,lG 8 6 false 7,bcG 9 6 false .gtr 8 14,oR 10 6 9,m 11 10,fG 12 11 false 1 1,lG 13 11 false 12,fG 14 11 false 2 1,lG 15 11 false 14,fG 16 11 false 3 1,lG 17 11 false 16,fG 18 11 false 4 1,lG 19 11 false 18,fG 20 11 false 5 1,lG 21 11 false 20,⟨some 22,some (11,false),.bslice 1 5 [i0] [(0,1,(.t 13)),(1,1,(.t 15)),(2,1,(.t 17)),(3,1,(.t 19)),(4,1,(.t 21))]⟩,k1G 23 11 false 89 22,nG 24 11 false 23,oR 25 11 24]) <|
 .cond [1] (.t 25) (.seq (rg [2] [mb 2 false]) <|
 .ret) (.skip)) <|
 .seq (rg [2] [fa 26 7 1,l1 27 26,⟨some 28,none,.call (.c (.g (.fn 127))) [(.t 27),(.c (.g (.int .i64 30))),(.c (.g (.fn 128)))]⟩,m 29 28,fG 30 29 true 8 1,lG 31 29 true 30,⟨some 32,some (29,true),.call (.c (.g (.fn 129))) [(.t 31),(.c (.g (.int .i64 30))),(.c (.g (.fn 130)))]⟩,aN 33 29 32,m 2 33]) <|
 .ret⟩
theorem c59:cFunc Tryz.prog 59 false (hintC F59.body)=some F59:=by kernel_rfl
def F60:IFunc:=⟨2,9,[.tmp 4],false,.seq (rg [0,1] [mb 4 false]) <|
 .seq (rg [4] [m 5 0,m 6 1,k2 7 131 5 6,bc 8 .geq 7 0,m 4 8]) <|
 .ret⟩
theorem c60:cFunc Tryz.prog 60 false (hintC F60.body)=some F60:=by kernel_rfl
def F61:IFunc:=⟨2,15,[.tmp 3],false,.seq (rg [1,2] [bx 2 0,mb 3 false]) <|
 .seq (rg [3] [fa 4 5 2,l1 5 4,bc 6 .neq 5 0,m 7 6,fG 8 7 true 4 1,laG 9 7 true 2 8,fG 10 7 true 5 2,lG 11 7 true 10,k2G 12 7 true 62 9 11,nG 13 7 true 12,aN 14 7 13,m 3 14]) <|
 .ret⟩
theorem c61:cFunc Tryz.prog 61 false (hintC F61.body)=some F61:=by kernel_rfl
def F62:IFunc:=⟨2,9,[.tmp 4],false,.seq (rg [1,2] [bx 2 0,mb 4 false]) <|
 .seq (rg [4] [la 5 2 2,m 6 1,k2 7 132 5 6,bc 8 .geq 7 0,m 4 8]) <|
 .ret⟩
theorem c62:cFunc Tryz.prog 62 false (hintC F62.body)=some F62:=by kernel_rfl
def F63:IFunc:=⟨2,26,[.cell 4 true 2,.tmp 5],false,.seq (rg [1,2,4] [bx 2 0,⟨some 4,none,.alloc [zi,.s 3]⟩,mi 5 0]) <|
 .seq (rg [2,4,6] [la 7 2 2,m 8 1,k2 9 132 7 8,m 6 9]) <|
 .seq (.seq (rg [2,4,6,11] [m 10 6,bc 11 .lss 10 0]) <|
 .cond [2,4,6] (.t 11) (.seq (rg [4,5] [la 12 2 2,st 2 4 12,mi 5 6]) <|
 .ret) (.skip)) <|
 .seq (.drw [2,4] 0 <|tk (fa 13 1 2) <|tk (l1 14 13) <|tk (m 15 6) <|tk ⟨some 16,none,.slc 3 (.t 14) none (some (.t 15))⟩ <|tk (fa 17 1 2) <|tk (l1 18 17) <|tk (m 19 6) <|tk (bc 20 .add 19 1) <|tk ⟨some 21,none,.slc 3 (.t 18) (some (.t 20)) none⟩ <|.one ⟨some 22,none,.bslice 1 2 [.nsl] [(0,1,(.t 16)),(1,1,(.t 21))]⟩ <|.one (k1 23 133 22) <|.free <|tk (fa 24 1 2) <|.one (st 1 24 23) <|.leaf) <|
 .seq (rg [4,5] [la 25 2 2,st 2 4 25,mi 5 0]) <|
 .ret⟩
theorem c63:cFunc Tryz.prog 63 false (hintC F63.body)=some F63:=by kernel_rfl
def L64_0:IC :=
 .seq (rg [1,5,10,11,12,13] [bt 13 .lss 12 11]) <|
 .seq (.cond [1,5,10,11,12] (.t 13) (.skip) (.exit 0)) <|
 .seq (.block [1,5,10,11,12] 1 <|
 .seq (rg [1,5,7,10,11,12] [ia 14 6 10 12,la 15 6 14,⟨some 7,none,.alloc [zs,zs,zi,zi,zi,zi]⟩,st 6 7 15]) <|
 .seq (rg [1,5,7,10,11,12,19] [fa 16 5 7,l1 17 16,m 18 1,bt 19 .eql 17 18]) <|
 .cond [1,5,10,11,12] (.t 19) (rg [1,5,10,11,12] [m 20 5,fa 21 0 7,l1 22 21,⟨some 23,none,.build [gb,gs,gs,gi] [(0,1,(.c (.g (.bool true)))),(1,1,(.t 22))]⟩,⟨some 24,none,.bslice 4 1 [b0,s0,s0,i0] [(0,4,(.t 23))]⟩,ap 25 4 48 20 24,m 5 25]) (.skip)) <|
 rg [1,5,10,11,12] [bc 26 .add 12 1,m 12 26]
def F64:IFunc:=⟨2,28,[.tmp 4],false,.seq (rg [0,1] [nr 4 4]) <|
 .seq (.seq (rg [0,1,9] [m 8 1,bc 9 .eql 8 0]) <|
 .cond [0,1] (.t 9) (.seq (rg [4] [nr 4 4]) <|
 .ret) (.skip)) <|
 .seq (rg [0,1,5] [nr 5 4]) <|
 .seq (.seq (rg [1,5,10,11,12] [m 10 0,ln 11 10,mi 12 0]) <|
 .block [5] 0 <|
 .loop [1,5,10,11,12] [] L64_0) <|
 .seq (rg [4] [m 27 5,m 4 27]) <|
 .ret⟩
theorem c64:cFunc Tryz.prog 64 false (hintC F64.body)=some F64:=by kernel_rfl
def F65:IFunc:=⟨2,38,[.cell 4 true 4,.tmp 5],false,.seq (rg [2,3,4] [bx 2 0,bx 3 1,⟨some 4,none,.alloc [zi,zi,.s 6,.s 8]⟩,mi 5 0]) <|
 .seq (.block [2,3,4] 0 <|
 .seq (rg [2,3,4,6] [l1 7 3,bc 8 .lss 7 0,m 9 8,lG 10 9 false 3,fG 11 9 false 0 2,lG 12 9 false 11,btG 13 9 false .gtr 10 12,oR 14 9 13,m 6 14]) <|
 .cond [2,3,4] (.t 6) (.seq (rg [4,5] [la 15 4 2,st 4 4 15,mi 5 8]) <|
 .ret) (.seq (rg [2,3,4,16] [l1 17 3,fa 18 1 2,l1 19 18,bt 20 .lss 17 19,m 16 20]) <|
 .cond [2,3,4] (.t 16) (.seq (rg [4,5] [la 21 4 2,st 4 4 21,mi 5 9]) <|
 .ret) (.skip))) <|
 .seq (rg [2,3,4] [fa 22 2 2,l1 23 22,fa 24 3 2,l1 25 24,l1 26 3,k3 27 50 23 25 26,fa 28 2 2,st 1 28 27]) <|
 .seq (rg [2,3,4] [l1 29 3,fa 30 1 2,st 1 30 29]) <|
 .seq (rg [2,4] [fa 31 3 2,l1 32 31,k1 33 135 32,⟨some 34,none,.mkfn 136 [(.t 3)]⟩,k2 35 134 33 34,fa 36 3 2,st 1 36 35]) <|
 .seq (rg [4,5] [la 37 4 2,st 4 4 37,mi 5 0]) <|
 .ret⟩
theorem c65:cFunc Tryz.prog 65 false (hintC F65.body)=some F65:=by kernel_rfl
def F66:IFunc:=⟨2,55,[.cell 4 true 4,.tmp 5,.tmp 6],false,.seq (rg [1,2,4] [bx 2 0,⟨some 4,none,.alloc [zi,zi,.s 6,.s 8]⟩,nr 5 8,mi 6 0]) <|
 .seq (.seq (rg [1,2,4,11] [m 9 1,k1 10 137 9,nt 11 10]) <|
 .cond [1,2,4] (.t 11) (.seq (rg [4,5,6] [la 12 4 2,st 4 4 12,nr 5 8,mi 6 1]) <|
 .ret) (.skip)) <|
 .seq (.drw [2,4,7,8] 0 <|tk (la 14 4 2) <|tk (m 16 1) <|tk (fa 17 0 2) <|tk (l1 18 17) <|tk (bc 19 .add 18 1) <|.one (k1 15 20 14) <|.one (k3 20 138 15 16 19) <|tk (m 13 20) <|tk (ex 21 0 13) <|tk (ex 22 1 13) <|.free <|tk (m 7 21) <|tk (m 8 22) <|.leaf) <|
 .seq (.seq (rg [2,4,7,8,25] [m 23 7,ln 24 23,bc 25 .eql 24 0]) <|
 .cond [2,4,7,8] (.t 25) (.seq (rg [4,5,6] [la 26 4 2,st 4 4 26,nr 5 8,mi 6 0]) <|
 .ret) (.skip)) <|
 .seq (.seq (rg [2,4,7,41] [m 27 8,m 28 27,fG 29 28 false 0 2,lG 30 28 false 29,bcG 31 28 false .eql 30 1099511627774,oR 32 28 31,m 33 32,fG 34 33 false 3 2,lG 35 33 false 34,lnG 36 33 false 35,mG 37 33 false 7,lnG 38 33 false 37,btG 39 33 false .add 36 38,bcG 40 33 false .gtr 39 60,oR 41 33 40]) <|
 .cond [2,4,7] (.t 41) (.seq (rg [4,5,6] [la 42 4 2,st 4 4 42,nr 5 8,mi 6 4]) <|
 .ret) (.skip)) <|
 .seq (rg [2,4,7] [fa 43 0 2,l1 44 43,bc 45 .add 44 1,fa 46 0 2,st 1 46 45]) <|
 .seq (rg [2,4,7] [fa 47 3 2,l1 48 47,m 49 7,⟨some 50,none,.bslice 1 2 [.nsl] [(0,1,(.t 48)),(1,1,(.t 49))]⟩,k1 51 139 50,fa 52 3 2,st 1 52 51]) <|
 .seq (rg [4,5,6] [la 53 4 2,m 54 7,st 4 4 53,m 5 54,mi 6 0]) <|
 .ret⟩
theorem c66:cFunc Tryz.prog 66 false (hintC F66.body)=some F66:=by kernel_rfl
def F67:IFunc:=⟨2,35,[.cell 4 true 2,.tmp 5],false,.seq (rg [1,2,4] [bx 2 0,⟨some 4,none,.alloc [zi,.s 3]⟩,mi 5 0]) <|
 .seq (rg [2,4,6] [la 8 2 2,m 9 1,k2 10 42 8 9,m 6 10]) <|
 .seq (.seq (rg [2,4,6,12] [m 11 6,bc 12 .lss 11 0]) <|
 .cond [2,4,6] (.t 12) (.seq (rg [4,5] [la 13 2 2,st 2 4 13,mi 5 6]) <|
 .ret) (.skip)) <|
 .seq (rg [2,4,6,7] [fa 14 0 2,l1 15 14,⟨some 16,none,.build [gi,gn] [(0,1,(.t 15))]⟩,⟨some 7,none,.alloc [zi,.s 3]⟩,st 2 7 16]) <|
 .seq (.drw [2,4,6,7] 0 <|tk (fa 17 1 7) <|tk (l1 18 17) <|tk (fa 19 1 2) <|tk (l1 20 19) <|tk (m 21 6) <|tk ⟨some 22,none,.slc 3 (.t 20) none (some (.t 21))⟩ <|.one (ap 23 3 24 18 22) <|.free <|tk (fa 24 1 7) <|.one (st 1 24 23) <|.leaf) <|
 .seq (.drw [4,7] 0 <|tk (fa 25 1 7) <|tk (l1 26 25) <|tk (fa 27 1 2) <|tk (l1 28 27) <|tk (m 29 6) <|tk (bc 30 .add 29 1) <|tk ⟨some 31,none,.slc 3 (.t 28) (some (.t 30)) none⟩ <|.one (ap 32 3 24 26 31) <|.free <|tk (fa 33 1 7) <|.one (st 1 33 32) <|.leaf) <|
 .seq (rg [4,5] [la 34 2 7,st 2 4 34,mi 5 0]) <|
 .ret⟩
theorem c67:cFunc Tryz.prog 67 false (hintC F67.body)=some F67:=by kernel_rfl
def L68_0:IC :=
 .seq (.seq (rg [0,1,5,6,10] [m 7 6,m 8 0,ln 9 8,bt 10 .lss 7 9]) <|
 .cond [0,1,5,6] (.t 10) (.skip) (.exit 0)) <|
 .seq (.block [0,1,5,6] 1 <|
 .seq (rg [0,1,5,6,23] [m 13 1,bc 14 .neq 13 0,m 15 14,mG 16 15 true 0,mG 17 15 true 6,iG 18 15 true 6 16 17,fG 19 15 true 5 18,lG 20 15 true 19,mG 21 15 true 1,btG 22 15 true .eql 20 21,aN 23 15 22]) <|
 .cond [0,1,5,6] (.t 23) (rg [0,1,5,6] [m 24 5,m 25 0,m 26 6,ia 27 6 25 26,fa 28 0 27,l1 29 28,⟨some 30,none,.build [gb,gs,gs,gi] [(0,1,(.c (.g (.bool true)))),(1,1,(.t 29))]⟩,⟨some 31,none,.bslice 4 1 [b0,s0,s0,i0] [(0,4,(.t 30))]⟩,ap 32 4 48 24 31,m 5 32]) (.skip)) <|
 rg [0,1,5,6] [m 11 6,bc 12 .add 11 1,m 6 12]
def F68:IFunc:=⟨2,34,[.tmp 4],false,.seq (rg [0,1] [nr 4 4]) <|
 .seq (rg [0,1,5] [nr 5 4]) <|
 .seq (.seq (rg [0,1,5,6] [mi 6 0]) <|
 .block [5] 0 <|
 .loop [0,1,5,6] [] L68_0) <|
 .seq (rg [4] [m 33 5,m 4 33]) <|
 .ret⟩
theorem c68:cFunc Tryz.prog 68 false (hintC F68.body)=some F68:=by kernel_rfl
def L69_0:IC :=
 .seq (.seq (rg [1,2,4,6,7,36] [m 32 7,fa 33 3 2,l1 34 33,ln 35 34,bt 36 .lss 32 35]) <|
 .cond [1,2,4,6,7] (.t 36) (.skip) (.exit 0)) <|
 .seq (.block [1,2,4,6,7] 1 <|
 .seq (rg [1,2,4,6,7,46] [fa 39 3 2,l1 40 39,m 41 7,ia 42 8 40 41,fa 43 0 42,l1 44 43,m 45 1,bt 46 .gtr 44 45]) <|
 .cond [1,2,4,6,7] (.t 46) (.drw [1,2,4,6,7] 0 <|tk (fa 47 3 6) <|tk (l1 48 47) <|tk (fa 49 3 2) <|tk (l1 50 49) <|tk (m 51 7) <|tk (ia 52 8 50 51) <|tk (la 53 8 52) <|.one ⟨some 54,none,.bslice 8 1 [i0,b0,s0,s0,i0,i0,i0,i0] [(0,8,(.t 53))]⟩ <|.one (ap 55 8 80 48 54) <|.free <|tk (fa 56 3 6) <|.one (st 1 56 55) <|.leaf) (.skip)) <|
 rg [1,2,4,6,7] [m 37 7,bc 38 .add 37 1,m 7 38]
def F69:IFunc:=⟨2,58,[.cell 4 true 4,.tmp 5],false,.seq (rg [1,2,4] [bx 2 0,⟨some 4,none,.alloc [zi,zi,.s 6,.s 8]⟩,mi 5 0]) <|
 .seq (.seq (rg [1,2,4,15] [m 8 1,bc 9 .lss 8 0,m 10 9,mG 11 10 false 1,fG 12 10 false 0 2,lG 13 10 false 12,btG 14 10 false .gtr 11 13,oR 15 10 14]) <|
 .cond [1,2,4] (.t 15) (.seq (rg [4,5] [la 16 4 2,st 4 4 16,mi 5 8]) <|
 .ret) (.skip)) <|
 .seq (.seq (rg [1,2,4,20] [m 17 1,fa 18 1 2,l1 19 18,bt 20 .lss 17 19]) <|
 .cond [1,2,4] (.t 20) (.seq (rg [4,5] [la 21 4 2,st 4 4 21,mi 5 9]) <|
 .ret) (.skip)) <|
 .seq (.drw [1,2,4,6] 1 <|tk (fa 22 0 2) <|tk (l1 23 22) <|tk (m 24 1) <|tk (fa 25 2 2) <|tk (l1 26 25) <|tk (fa 27 3 2) <|tk (l1 28 27) <|tk (m 29 1) <|
 .alt (k3 30 41 26 28 29) (tk ⟨some 31,none,.build [gi,gi,gn,gn] [(0,1,(.t 23)),(1,1,(.t 24)),(2,1,(.t 30))]⟩ <|.one ⟨some 6,none,.allocAt 0 [zi,zi,.s 6,.s 8]⟩ <|.free <|.one (st 4 6 31) <|.leaf) (.one ⟨some 6,none,.allocAt 0 [zi,zi,.s 6,.s 8]⟩ <|.one (k3 30 41 26 28 29) <|tk ⟨some 31,none,.build [gi,gi,gn,gn] [(0,1,(.t 23)),(1,1,(.t 24)),(2,1,(.t 30))]⟩ <|.free <|.one (st 4 6 31) <|.leaf)) <|
 .seq (.seq (rg [1,2,4,6,7] [mi 7 0]) <|
 .block [4,6] 0 <|
 .loop [1,2,4,6,7] [] L69_0) <|
 .seq (rg [4,5] [la 57 4 6,st 4 4 57,mi 5 0]) <|
 .ret⟩
theorem c69:cFunc Tryz.prog 69 false (hintC F69.body)=some F69:=by kernel_rfl
def L70_0:IC :=
 .seq (.seq (rg [1,2,4,7,8,9,10,11,28] [m 25 11,m 26 1,ln 27 26,bt 28 .lss 25 27]) <|
 .cond [1,2,4,7,8,9,10,11] (.t 28) (.skip) (.exit 0)) <|
 .seq (.block [1,2,4,7,8,9,10,11] 1 <|
 .seq (rg [1,2,4,7,8,9,10,11,12,13] [m 32 7,m 33 1,m 34 11,ia 35 4 33 34,fa 36 1 35,l1 37 36,k2 38 141 32 37,m 31 38,ex 39 0 31,ex 40 1 31,⟨some 12,none,.alloc [zs,zs,zi,zi,zi,zi]⟩,st 6 12 39,m 13 40]) <|
 .seq (.drw [1,2,4,7,8,9,10,11,12,13,14] 1 <|tk (m 41 8) <|tk (m 42 1) <|tk (m 43 11) <|tk (ia 44 4 42 43) <|tk (fa 45 0 44) <|tk (l1 46 45) <|tk (la 47 6 12) <|tk ⟨some 48,none,.build [gi,gb,gs,gs,gi,gi,gi,gi] [(0,1,(.t 41)),(1,1,(.t 46)),(2,6,(.t 47))]⟩ <|.one ⟨some 14,none,.allocAt 0 [zi,zb,zs,zs,zi,zi,zi,zi]⟩ <|.free <|.one (st 8 14 48) <|.leaf) <|
 .seq (.seq (rg [1,2,4,7,8,9,10,11,12,13,14,57] [m 49 1,m 50 11,ia 51 4 49 50,fa 52 0 51,l1 53 52,m 54 53,mG 55 54 true 13,nG 56 54 true 55,aN 57 54 56]) <|
 .cond [1,2,4,7,8,9,10,11,12,13,14] (.t 57) (.exit 1) (.skip)) <|
 .seq (.seq (rg [1,2,4,7,8,9,10,11,12,13,14,63] [m 58 1,m 59 11,ia 60 4 58 59,fa 61 0 60,l1 62 61,nt 63 62]) <|
 .cond [1,2,4,7,8,9,10,11,14] (.t 63) (.seq (.drw [1,2,4,7,8,9,10,11,12,13,14] 0 <|tk (m 64 1) <|tk (m 65 11) <|tk (ia 66 4 64 65) <|tk (fa 67 1 66) <|tk (l1 68 67) <|tk (m 69 1) <|tk (m 70 11) <|tk (ia 71 4 69 70) <|tk (fa 72 2 71) <|tk (l1 73 72) <|tk (m 74 8) <|tk (m 75 8) <|tk (m 76 1) <|tk (m 77 11) <|tk (ia 78 4 76 77) <|tk (fa 79 3 78) <|tk (l1 80 79) <|.free <|tk ⟨some 81,none,.build [gs,gs,gi,gi,gi,gi] [(0,1,(.t 68)),(1,1,(.t 73)),(2,1,(.t 74)),(3,1,(.t 75)),(4,1,(.c (.g (.int .i64 1)))),(5,1,(.t 80))]⟩ <|tk (fa 82 2 14) <|.one (st 6 82 81) <|.leaf) <|
 .seq (rg [1,2,4,7,8,9,10,11,12,14,83] [m 83 13]) <|
 .cond [1,2,4,7,8,9,10,11,14] (.t 83) (.seq (rg [1,2,4,7,8,9,10,11,12,14] [fa 84 2 12,l1 85 84,fa 86 2 14,fa 87 2 86,st 1 87 85]) <|
 rg [1,2,4,7,8,9,10,11,14] [fa 88 4 12,l1 89 88,bc 90 .add 89 1,fa 91 2 14,fa 92 4 91,st 1 92 90]) (.skip)) (.skip)) <|
 .seq (rg [1,2,4,7,8,9,10,11,14] [m 93 9,la 94 8 14,⟨some 95,none,.bslice 8 1 [i0,b0,s0,s0,i0,i0,i0,i0] [(0,8,(.t 94))]⟩,ap 96 8 80 93 95,m 9 96]) <|
 .seq (rg [1,2,4,7,8,9,10,11] [m 97 7,la 98 8 14,⟨some 99,none,.bslice 8 1 [i0,b0,s0,s0,i0,i0,i0,i0] [(0,8,(.t 98))]⟩,m 100 8,k3 101 41 97 99 100,m 7 101]) <|
 rg [1,2,4,7,8,9,10,11] [m 102 10,m 103 102,mG 104 103 false 7,lnG 105 103 false 104,bcG 106 103 false .gtr 105 30,oR 107 103 106,m 10 107]) <|
 rg [1,2,4,7,8,9,10,11] [m 29 11,bc 30 .add 29 1,m 11 30]
def F70:IFunc:=⟨2,143,[.cell 4 true 4,.tmp 5,.tmp 6],false,.seq (rg [1,2,4] [bx 2 0,⟨some 4,none,.alloc [zi,zi,.s 6,.s 8]⟩,nr 5 8,mi 6 0]) <|
 .seq (.seq (rg [1,2,4,18] [m 16 1,k1 17 140 16,nt 18 17]) <|
 .cond [1,2,4] (.t 18) (.seq (rg [4,5,6] [la 19 4 2,st 4 4 19,nr 5 8,mi 6 1]) <|
 .ret) (.skip)) <|
 .seq (rg [1,2,4,7] [la 20 4 2,k1 21 15 20,m 7 21]) <|
 .seq (rg [1,2,4,7,8] [fa 22 0 2,l1 23 22,bc 24 .add 23 1,m 8 24]) <|
 .seq (rg [1,2,4,7,8,9] [nr 9 8]) <|
 .seq (rg [1,2,4,7,8,9,10] [mb 10 false]) <|
 .seq (.seq (rg [1,2,4,7,8,9,10,11] [mi 11 0]) <|
 .block [2,4,8,9,10] 0 <|
 .loop [1,2,4,7,8,9,10,11] [] L70_0) <|
 .seq (.seq (rg [2,4,8,9,10,110] [m 108 9,ln 109 108,bc 110 .eql 109 0]) <|
 .cond [2,4,8,9,10] (.t 110) (.seq (rg [4,5,6] [la 111 4 2,st 4 4 111,nr 5 8,mi 6 0]) <|
 .ret) (.skip)) <|
 .seq (.seq (rg [2,4,8,9,126] [m 112 10,m 113 112,fG 114 113 false 0 2,lG 115 113 false 114,bcG 116 113 false .geq 115 1099511627774,oR 117 113 116,m 118 117,fG 119 118 false 3 2,lG 120 118 false 119,lnG 121 118 false 120,mG 122 118 false 9,lnG 123 118 false 122,btG 124 118 false .add 121 123,bcG 125 118 false .gtr 124 60,oR 126 118 125]) <|
 .cond [2,4,8,9] (.t 126) (.seq (rg [4,5,6] [la 127 4 2,st 4 4 127,nr 5 8,mi 6 4]) <|
 .ret) (.skip)) <|
 .seq (rg [2,4,8,9,15] [la 128 4 2,⟨some 15,none,.alloc [zi,zi,.s 6,.s 8]⟩,st 4 15 128]) <|
 .seq (rg [2,4,9,15] [m 129 8,fa 130 0 15,st 1 130 129]) <|
 .seq (rg [4,9,15] [⟨some 131,none,.mk0 8⟩,fa 132 3 2,l1 133 132,ap 134 8 80 131 133,fa 135 3 15,st 1 135 134]) <|
 .seq (rg [4,9,15] [fa 136 3 15,l1 137 136,m 138 9,ap 139 8 80 137 138,fa 140 3 15,st 1 140 139]) <|
 .seq (rg [4,5,6] [la 141 4 15,m 142 9,st 4 4 141,m 5 142,mi 6 0]) <|
 .ret⟩
theorem c70:cFunc Tryz.prog 70 false (hintC F70.body)=some F70:=by kernel_rfl
def L71_0:IC :=
 .seq (.seq (rg [1,2,5,6,11] [m 7 6,fa 8 1 2,l1 9 8,ln 10 9,bt 11 .lss 7 10]) <|
 .cond [1,2,5,6] (.t 11) (.skip) (.exit 0)) <|
 .seq (.block [1,2,5,6] 1 <|
 .seq (rg [1,2,5,6,21] [fa 14 1 2,l1 15 14,m 16 6,ia 17 3 15 16,fa 18 2 17,l1 19 18,m 20 1,bt 21 .leq 19 20]) <|
 .cond [1,2,5,6] (.t 21) (rg [1,2,5,6] [m 22 5,fa 23 1 2,l1 24 23,m 25 6,ia 26 3 24 25,fa 27 0 26,l1 28 27,⟨some 29,none,.bslice 1 1 [i0] [(0,1,(.t 28))]⟩,ap 30 1 8 22 29,m 5 30]) (.skip)) <|
 rg [1,2,5,6] [m 12 6,bc 13 .add 12 1,m 6 13]
def F71:IFunc:=⟨2,32,[.tmp 4],false,.seq (rg [1,2] [bx 2 0,nr 4 1]) <|
 .seq (rg [1,2,5] [nr 5 1]) <|
 .seq (.seq (rg [1,2,5,6] [mi 6 0]) <|
 .block [5] 0 <|
 .loop [1,2,5,6] [] L71_0) <|
 .seq (rg [4] [m 31 5,m 4 31]) <|
 .ret⟩
theorem c71:cFunc Tryz.prog 71 false (hintC F71.body)=some F71:=by kernel_rfl
def F72:IFunc:=⟨1,9,[.tmp 2],false,.seq (rg [0] [mb 2 false]) <|
 .seq (rg [2] [m 3 0,bc 4 .geq 3 0,m 5 4,mG 6 5 true 0,bcG 7 5 true .leq 6 1099511627775,aN 8 5 7,m 2 8]) <|
 .ret⟩
theorem c72:cFunc Tryz.prog 72 false (hintC F72.body)=some F72:=by kernel_rfl
def F73:IFunc:=⟨2,13,[.tmp 4],false,.seq (rg [0,1] [mb 4 false]) <|
 .seq (rg [4] [m 5 0,⟨some 6,none,.lenS (.t 5)⟩,bc 7 .leq 6 40,m 8 7,mG 9 8 true 1,⟨some 10,some (8,true),.lenS (.t 9)⟩,bcG 11 8 true .leq 10 20,aN 12 8 11,m 4 12]) <|
 .ret⟩
theorem c73:cFunc Tryz.prog 73 false (hintC F73.body)=some F73:=by kernel_rfl
def F75:IFunc:=⟨1,28,[.tmp 2],false,.seq (rg [1] [bx 1 0,mb 2 false]) <|
 .seq (rg [2] [fa 3 0 1,l1 4 3,fa 5 1 1,l1 6 5,k2 7 73 4 6,m 8 7,fG 9 8 true 2 1,lG 10 8 true 9,k1G 11 8 true 72 10,aN 12 8 11,m 13 12,fG 14 13 true 3 1,lG 15 13 true 14,k1G 16 13 true 72 15,aN 17 13 16,m 18 17,fG 19 18 true 4 1,lG 20 18 true 19,k1G 21 18 true 72 20,aN 22 18 21,m 23 22,fG 24 23 true 5 1,lG 25 23 true 24,k1G 26 23 true 72 25,aN 27 23 26,m 2 27]) <|
 .ret⟩
theorem c75:cFunc Tryz.prog 75 false (hintC F75.body)=some F75:=by kernel_rfl
def L77_0:IC :=
 .seq (.seq (rg [0,5,13] [m 10 5,m 11 0,ln 12 11,bt 13 .lss 10 12]) <|
 .cond [0,5] (.t 13) (.skip) (.exit 0)) <|
 .seq (.block [0,5] 1 <|
 .seq (rg [0,5,31] [m 16 0,m 17 5,ia 18 6 16 17,fa 19 0 18,l1 20 19,⟨some 21,none,.lenS (.t 20)⟩,bc 22 .gtr 21 60,m 23 22,mG 24 23 false 0,mG 25 23 false 5,iG 26 23 false 6 24 25,fG 27 23 false 1 26,lG 28 23 false 27,⟨some 29,some (23,false),.lenS (.t 28)⟩,bcG 30 23 false .gtr 29 60,oR 31 23 30]) <|
 .cond [0,5] (.t 31) (.seq (rg [4] [mb 4 false]) <|
 .ret) (.skip)) <|
 rg [0,5] [m 14 5,bc 15 .add 14 1,m 5 15]
def F77:IFunc:=⟨2,32,[.tmp 4],false,.seq (rg [0,1] [mb 4 false]) <|
 .seq (.seq (rg [0,9] [m 6 0,ln 7 6,m 8 1,bt 9 .gtr 7 8]) <|
 .cond [0] (.t 9) (.seq (rg [4] [mb 4 false]) <|
 .ret) (.skip)) <|
 .seq (.seq (rg [0,5] [mi 5 0]) <|
 .block [] 0 <|
 .loop [0,5] [] L77_0) <|
 .seq (rg [4] [mb 4 true]) <|
 .ret⟩
theorem c77:cFunc Tryz.prog 77 false (hintC F77.body)=some F77:=by kernel_rfl
def L78_0:IC :=
 .seq (.seq (rg [0,5,13] [m 10 5,m 11 0,ln 12 11,bt 13 .lss 10 12]) <|
 .cond [0,5] (.t 13) (.skip) (.exit 0)) <|
 .seq (.block [0,5] 1 <|
 .seq (rg [0,5,33] [m 16 0,m 17 5,ia 18 8 16 17,fa 19 2 18,fa 20 0 19,l1 21 20,⟨some 22,none,.lenS (.t 21)⟩,bc 23 .gtr 22 60,m 24 23,mG 25 24 false 0,mG 26 24 false 5,iG 27 24 false 8 25 26,fG 28 24 false 2 27,fG 29 24 false 1 28,lG 30 24 false 29,⟨some 31,some (24,false),.lenS (.t 30)⟩,bcG 32 24 false .gtr 31 60,oR 33 24 32]) <|
 .cond [0,5] (.t 33) (.seq (rg [4] [mb 4 false]) <|
 .ret) (.skip)) <|
 rg [0,5] [m 14 5,bc 15 .add 14 1,m 5 15]
def F78:IFunc:=⟨2,34,[.tmp 4],false,.seq (rg [0,1] [mb 4 false]) <|
 .seq (.seq (rg [0,9] [m 6 0,ln 7 6,m 8 1,bt 9 .gtr 7 8]) <|
 .cond [0] (.t 9) (.seq (rg [4] [mb 4 false]) <|
 .ret) (.skip)) <|
 .seq (.seq (rg [0,5] [mi 5 0]) <|
 .block [] 0 <|
 .loop [0,5] [] L78_0) <|
 .seq (rg [4] [mb 4 true]) <|
 .ret⟩
theorem c78:cFunc Tryz.prog 78 false (hintC F78.body)=some F78:=by kernel_rfl
def L79_0:IC :=
 .seq (.seq (rg [0,3,7] [m 4 3,m 5 0,ln 6 5,bt 7 .lss 4 6]) <|
 .cond [0,3] (.t 7) (.skip) (.exit 0)) <|
 .seq (.block [0,3] 1 <|
 .seq (.drw [0,3,33] 0 <|tk (m 10 0) <|tk (m 11 3) <|tk (ia 12 6 10 11) <|tk (la 13 6 12) <|.one (k1 14 142 13) <|tk (nt 15 14) <|tk (m 16 15) <|tk (mG 17 16 false 3) <|tk (bcG 18 16 false .gtr 17 0) <|tk (mG 19 16 false 18) <|tk (mG 20 19 true 0) <|tk (mG 21 19 true 3) <|tk (bcG 22 19 true .sub 21 1) <|tk (iG 23 19 true 6 20 22) <|tk (fG 24 19 true 0 23) <|tk (mG 26 19 true 0) <|tk (mG 27 19 true 3) <|tk (iG 28 19 true 6 26 27) <|tk (fG 29 19 true 0 28) <|
 .alt (lG 25 19 true 24) (.one (lG 30 19 true 29) <|tk (btG 31 19 true .geq 25 30) <|tk ⟨some 32,some (16,false),.pick (.t 19) (.t 31) (.c (.g (.bool false)))⟩ <|tk (oR 33 16 32) <|.leaf) (.one (lG 30 19 true 29) <|.one (lG 25 19 true 24) <|tk (btG 31 19 true .geq 25 30) <|tk ⟨some 32,some (16,false),.pick (.t 19) (.t 31) (.c (.g (.bool false)))⟩ <|tk (oR 33 16 32) <|.leaf)) <|
 .cond [0,3] (.t 33) (.seq (rg [2] [mb 2 false]) <|
 .ret) (.skip)) <|
 rg [0,3] [m 8 3,bc 9 .add 8 1,m 3 9]
def F79:IFunc:=⟨1,34,[.tmp 2],false,.seq (rg [0] [mb 2 false]) <|
 .seq (.seq (rg [0,3] [mi 3 0]) <|
 .block [] 0 <|
 .loop [0,3] [] L79_0) <|
 .seq (rg [2] [mb 2 true]) <|
 .ret⟩
theorem c79:cFunc Tryz.prog 79 false (hintC F79.body)=some F79:=by kernel_rfl
def F80:IFunc:=⟨2,65,[.tmp 4],false,.seq (rg [0,3] [bx 3 1,mb 4 false]) <|
 .seq (rg [3,5,6] [m 8 0,fa 9 2 3,fa 10 0 9,l1 11 10,k2 12 141 8 11,m 7 12,ex 13 0 7,ex 14 1 7,⟨some 5,none,.alloc [zs,zs,zi,zi,zi,zi]⟩,st 6 5 13,m 6 14]) <|
 .seq (.seq (rg [3,5,6,16] [fa 15 1 3,l1 16 15]) <|
 .cond [3,5,6] (.t 16) (.seq (rg [4] [m 17 6,m 18 17,laG 19 18 true 6 5,fG 20 18 true 2 3,laG 21 18 true 6 20,⟨some 22,some (18,true),.eqs false true [.s,.s,.i,.i,.i,.i] (.t 19) (.t 21)⟩,aN 23 18 22,m 4 23]) <|
 .ret) (.skip)) <|
 .seq (.seq (rg [3,5,6,35] [fa 24 2 3,la 25 6 24,k1 26 142 25,nt 27 26,m 28 27,fG 29 28 false 2 3,fG 30 28 false 3 29,lG 31 28 false 30,fG 32 28 false 0 3,lG 33 28 false 32,btG 34 28 false .neq 31 33,oR 35 28 34]) <|
 .cond [3,5,6] (.t 35) (.seq (rg [4] [mb 4 false]) <|
 .ret) (.skip)) <|
 .seq (.seq (rg [3,5,37] [m 36 6,nt 37 36]) <|
 .cond [3,5] (.t 37) (.seq (rg [4] [fa 38 2 3,fa 39 2 38,l1 40 39,fa 41 0 3,l1 42 41,bt 43 .eql 40 42,m 44 43,fG 45 44 true 2 3,fG 46 44 true 4 45,lG 47 44 true 46,bcG 48 44 true .eql 47 1,aN 49 44 48,m 4 49]) <|
 .ret) (.skip)) <|
 .seq (rg [4] [fa 50 2 3,fa 51 2 50,l1 52 51,fa 53 2 5,l1 54 53,bt 55 .eql 52 54,m 56 55,fG 57 56 true 2 3,fG 58 56 true 4 57,lG 59 56 true 58,bcG 60 56 true .sub 59 1,fG 61 56 true 4 5,lG 62 56 true 61,btG 63 56 true .eql 60 62,aN 64 56 63,m 4 64]) <|
 .ret⟩
theorem c80:cFunc Tryz.prog 80 false (hintC F80.body)=some F80:=by kernel_rfl
def F81:IFunc:=⟨1,9,[.tmp 2],false,.seq (rg [0] [mb 2 false]) <|
 .seq (rg [2] [m 3 0,bc 4 .geq 3 0,m 5 4,mG 6 5 true 0,bcG 7 5 true .leq 6 1099511627775,aN 8 5 7,m 2 8]) <|
 .ret⟩
theorem c81:cFunc Tryz.prog 81 false (hintC F81.body)=some F81:=by kernel_rfl
def L82_0:IC :=
 .seq (.seq (rg [1,2,5,10] [m 6 5,fa 7 1 2,l1 8 7,ln 9 8,bt 10 .lss 6 9]) <|
 .cond [1,2,5] (.t 10) (.skip) (.exit 0)) <|
 .seq (.block [1,2,5] 1 <|
 .seq (rg [1,2,5,20] [fa 13 1 2,l1 14 13,m 15 5,ia 16 2 14 15,fa 17 0 16,l1 18 17,m 19 1,bt 20 .eql 18 19]) <|
 .cond [1,2,5] (.t 20) (.seq (rg [4] [fa 21 1 2,l1 22 21,m 23 5,ia 24 2 22 23,fa 25 1 24,l1 26 25,m 4 26]) <|
 .ret) (.skip)) <|
 rg [1,2,5] [m 11 5,bc 12 .add 11 1,m 5 12]
def F82:IFunc:=⟨2,27,[.tmp 4],false,.seq (rg [1,2] [bx 2 0,mi 4 0]) <|
 .seq (.seq (rg [1,2,5] [mi 5 0]) <|
 .block [] 0 <|
 .loop [1,2,5] [] L82_0) <|
 .seq (rg [4] [mi 4 (-1)]) <|
 .ret⟩
theorem c82:cFunc Tryz.prog 82 false (hintC F82.body)=some F82:=by kernel_rfl
def L83_0:IC :=
 .seq (.seq (rg [0,1,5,9] [m 6 5,m 7 0,ln 8 7,bt 9 .lss 6 8]) <|
 .cond [0,1,5] (.t 9) (.skip) (.exit 0)) <|
 .seq (.block [0,1,5] 1 <|
 .seq (rg [0,1,5,18] [m 12 0,m 13 5,ia 14 2 12 13,fa 15 0 14,l1 16 15,m 17 1,bt 18 .eql 16 17]) <|
 .cond [0,1,5] (.t 18) (.seq (rg [4] [mb 4 true]) <|
 .ret) (.skip)) <|
 rg [0,1,5] [m 10 5,bc 11 .add 10 1,m 5 11]
def F83:IFunc:=⟨2,19,[.tmp 4],false,.seq (rg [0,1] [mb 4 false]) <|
 .seq (.seq (rg [0,1,5] [mi 5 0]) <|
 .block [] 0 <|
 .loop [0,1,5] [] L83_0) <|
 .seq (rg [4] [mb 4 false]) <|
 .ret⟩
theorem c83:cFunc Tryz.prog 83 false (hintC F83.body)=some F83:=by kernel_rfl
def L84_0:IC :=
 .seq (.seq (rg [1,2,5,6,11] [m 7 6,fa 8 0 2,l1 9 8,ln 10 9,bt 11 .lss 7 10]) <|
 .cond [1,2,5,6] (.t 11) (.skip) (.exit 0)) <|
 .seq (.block [1,2,5,6] 1 <|
 .seq (rg [1,2,5,6,21] [fa 14 0 2,l1 15 14,m 16 6,ia 17 11 15 16,fa 18 0 17,l1 19 18,m 20 1,bt 21 .eql 19 20]) <|
 .cond [1,2,5,6] (.t 21) (rg [1,2,5,6] [m 22 5,fa 23 0 2,l1 24 23,m 25 6,ia 26 11 24 25,fa 27 1 26,l1 28 27,⟨some 29,none,.call (.c (.g (.fn 115))) [(.t 22),(.t 28),(.c (.g (.bool false)))]⟩,m 5 29]) (.skip)) <|
 rg [1,2,5,6] [m 12 6,bc 13 .add 12 1,m 6 13]
def F84:IFunc:=⟨2,31,[.tmp 4],false,.seq (rg [1,2] [bx 2 0,nr 4 1]) <|
 .seq (rg [1,2,5] [nr 5 1]) <|
 .seq (.seq (rg [1,2,5,6] [mi 6 0]) <|
 .block [5] 0 <|
 .loop [1,2,5,6] [] L84_0) <|
 .seq (rg [4] [m 30 5,m 4 30]) <|
 .ret⟩
theorem c84:cFunc Tryz.prog 84 false (hintC F84.body)=some F84:=by kernel_rfl
def L85_0:IC :=
 .seq (.seq (rg [1,3,4,10] [m 6 4,fa 7 0 1,l1 8 7,ln 9 8,bt 10 .lss 6 9]) <|
 .cond [1,3,4] (.t 10) (.skip) (.exit 0)) <|
 .seq (.block [1,3,4] 1 <|
 rg [1,3,4] [m 13 3,fa 14 0 1,l1 15 14,m 16 4,ia 17 11 15 16,fa 18 0 17,l1 19 18,⟨some 20,none,.call (.c (.g (.fn 115))) [(.t 13),(.t 19),(.c (.g (.bool true)))]⟩,m 3 20]) <|
 rg [1,3,4] [m 11 4,bc 12 .add 11 1,m 4 12]
def L85_1:IC :=
 .seq (.seq (rg [1,3,5,25] [m 21 5,fa 22 1 1,l1 23 22,ln 24 23,bt 25 .lss 21 24]) <|
 .cond [1,3,5] (.t 25) (.skip) (.exit 2)) <|
 .seq (.block [1,3,5] 3 <|
 rg [1,3,5] [m 28 3,fa 29 1 1,l1 30 29,m 31 5,ia 32 2 30 31,fa 33 0 32,l1 34 33,⟨some 35,none,.call (.c (.g (.fn 115))) [(.t 28),(.t 34),(.c (.g (.bool true)))]⟩,m 3 35]) <|
 rg [1,3,5] [m 26 5,bc 27 .add 26 1,m 5 27]
def F85:IFunc:=⟨1,37,[.tmp 2],false,.seq (rg [1] [bx 1 0,nr 2 1]) <|
 .seq (rg [1,3] [nr 3 1]) <|
 .seq (.seq (rg [1,3,4] [mi 4 0]) <|
 .block [1,3] 0 <|
 .loop [1,3,4] [] L85_0) <|
 .seq (.seq (rg [1,3,5] [mi 5 0]) <|
 .block [3] 2 <|
 .loop [1,3,5] [] L85_1) <|
 .seq (rg [2] [m 36 3,m 2 36]) <|
 .ret⟩
theorem c85:cFunc Tryz.prog 85 false (hintC F85.body)=some F85:=by kernel_rfl
def L86_0:IC :=
 .seq (.seq (rg [0,1,5,6,7,12] [m 9 7,m 10 0,ln 11 10,bt 12 .lss 9 11]) <|
 .cond [0,1,5,6,7] (.t 12) (.skip) (.exit 0)) <|
 .seq (.block [0,1,5,6,7] 1 <|
 .seq (.seq (rg [0,1,5,6,7,25] [m 15 6,nt 16 15,m 17 16,mG 18 17 true 0,mG 19 17 true 7,iG 20 17 true 6 18 19,fG 21 17 true 0 20,lG 22 17 true 21,mG 23 17 true 1,btG 24 17 true .eql 22 23,aN 25 17 24]) <|
 .cond [0,1,5,6,7] (.t 25) (.seq (rg [0,1,5,6,7] [mb 6 true]) <|
 .exit 1) (.skip)) <|
 rg [0,1,5,6,7] [m 26 5,m 27 0,m 28 7,ia 29 6 27 28,la 30 6 29,⟨some 31,none,.bslice 6 1 [s0,s0,i0,i0,i0,i0] [(0,6,(.t 30))]⟩,ap 32 6 64 26 31,m 5 32]) <|
 rg [0,1,5,6,7] [m 13 7,bc 14 .add 13 1,m 7 14]
def F86:IFunc:=⟨2,34,[.tmp 4],false,.seq (rg [0,1] [nr 4 6]) <|
 .seq (rg [0,1,5] [⟨some 8,none,.mk0 6⟩,m 5 8]) <|
 .seq (rg [0,1,5,6] [mb 6 false]) <|
 .seq (.seq (rg [0,1,5,6,7] [mi 7 0]) <|
 .block [5] 0 <|
 .loop [0,1,5,6,7] [] L86_0) <|
 .seq (rg [4] [m 33 5,m 4 33]) <|
 .ret⟩
theorem c86:cFunc Tryz.prog 86 false (hintC F86.body)=some F86:=by kernel_rfl
def L87_0:IC :=
 .seq (.seq (.drw [0,3,5,20] 0 <|tk (m 7 5) <|tk (m 8 0) <|tk (ln 9 8) <|tk (bt 10 .lss 7 9) <|tk (m 11 10) <|tk (mG 12 11 true 0) <|tk (mG 13 11 true 5) <|tk (iG 14 11 true 6 12 13) <|tk (fG 15 11 true 0 14) <|tk (lG 16 11 true 15) <|tk (fG 17 11 true 0 3) <|tk (lG 18 11 true 17) <|tk (btG 19 11 true .lss 16 18) <|tk (aN 20 11 19) <|.leaf) <|
 .cond [0,3,5] (.t 20) (.skip) (.exit 0)) <|
 .block [0,3,5] 1 <|
 rg [0,3,5] [m 21 5,bc 22 .add 21 1,m 5 22]
def F87:IFunc:=⟨2,53,[.tmp 4],false,.seq (rg [0,3] [bx 3 1,nr 4 6]) <|
 .seq (rg [0,3,5] [mi 5 0]) <|
 .seq (.block [0,3,5] 0 <|
 .loop [0,3,5] [] L87_0) <|
 .seq (rg [0,3,5,6] [⟨some 23,none,.mk0 6⟩,m 24 0,m 25 5,⟨some 26,none,.slc 6 (.t 24) none (some (.t 25))⟩,ap 27 6 64 23 26,m 6 27]) <|
 .seq (rg [0,3,5,6] [m 28 6,la 29 6 3,⟨some 30,none,.bslice 6 1 [s0,s0,i0,i0,i0,i0] [(0,6,(.t 29))]⟩,ap 31 6 64 28 30,m 6 31]) <|
 .seq (.seq (.drw [0,5,6,45] 0 <|tk (m 32 5) <|tk (m 33 0) <|tk (ln 34 33) <|tk (bt 35 .lss 32 34) <|tk (m 36 35) <|tk (mG 37 36 true 0) <|tk (mG 38 36 true 5) <|tk (iG 39 36 true 6 37 38) <|tk (fG 40 36 true 0 39) <|tk (lG 41 36 true 40) <|tk (fG 42 36 true 0 3) <|tk (lG 43 36 true 42) <|tk (btG 44 36 true .eql 41 43) <|tk (aN 45 36 44) <|.leaf) <|
 .cond [0,5,6] (.t 45) (rg [0,5,6] [m 46 5,bc 47 .add 46 1,m 5 47]) (.skip)) <|
 .seq (rg [4] [m 48 6,m 49 0,m 50 5,⟨some 51,none,.slc 6 (.t 49) (some (.t 50)) none⟩,ap 52 6 64 48 51,m 4 52]) <|
 .ret⟩
theorem c87:cFunc Tryz.prog 87 false (hintC F87.body)=some F87:=by kernel_rfl
def F88:IFunc:=⟨2,13,[.tmp 4],false,.seq (rg [0,1] [mb 4 false]) <|
 .seq (rg [4] [m 5 0,⟨some 6,none,.lenS (.t 5)⟩,bc 7 .leq 6 40,m 8 7,mG 9 8 true 1,⟨some 10,some (8,true),.lenS (.t 9)⟩,bcG 11 8 true .leq 10 20,aN 12 8 11,m 4 12]) <|
 .ret⟩
theorem c88:cFunc Tryz.prog 88 false (hintC F88.body)=some F88:=by kernel_rfl
def F89:IFunc:=⟨1,6,[.tmp 2],false,.seq (rg [0] [mb 2 false]) <|
 .seq (rg [2] [m 3 0,⟨some 4,none,.call (.c (.g (.fn 143))) [(.t 3),(.c (.g (.fn 144)))]⟩,nt 5 4,m 2 5]) <|
 .ret⟩
theorem c89:cFunc Tryz.prog 89 false (hintC F89.body)=some F89:=by kernel_rfl
def F90:IFunc:=⟨3,17,[.tmp 6],false,.seq (rg [0,1,5] [bx 5 2,mb 6 false]) <|
 .seq (rg [6] [m 7 0,ln 8 7,m 9 1,bt 10 .leq 8 9,m 11 10,mG 12 11 true 0,⟨some 13,some (11,true),.mkfn 146 [(.t 5)]⟩,k2G 14 11 true 145 12 13,nG 15 11 true 14,aN 16 11 15,m 6 16]) <|
 .ret⟩
theorem c90:cFunc Tryz.prog 90 false (hintC F90.body)=some F90:=by kernel_rfl
def F91:IFunc:=⟨1,34,[.tmp 2],false,.seq (rg [1] [bx 1 0,mb 2 false]) <|
 .seq (rg [2] [fa 3 0 1,l1 4 3,fa 5 4 1,l1 6 5,k2 7 88 4 6,m 8 7,fG 9 8 true 1 1,lG 10 8 true 9,bcG 11 8 true .geq 10 1,aN 12 8 11,m 13 12,fG 14 13 true 1 1,lG 15 13 true 14,bcG 16 13 true .leq 15 4,aN 17 13 16,m 18 17,fG 19 18 true 2 1,lG 20 18 true 19,bcG 21 18 true .geq 20 1,aN 22 18 21,m 23 22,fG 24 23 true 2 1,lG 25 23 true 24,bcG 26 23 true .leq 25 3,aN 27 23 26,m 28 27,fG 29 28 true 3 1,lG 30 28 true 29,⟨some 31,some (28,true),.bslice 1 1 [i0] [(0,1,(.t 30))]⟩,k1G 32 28 true 89 31,aN 33 28 32,m 2 33]) <|
 .ret⟩
theorem c91:cFunc Tryz.prog 91 false (hintC F91.body)=some F91:=by kernel_rfl
def F92:IFunc:=⟨3,17,[.tmp 6],false,.seq (rg [0,1,5] [bx 5 2,mb 6 false]) <|
 .seq (rg [6] [m 7 0,ln 8 7,m 9 1,bt 10 .leq 8 9,m 11 10,mG 12 11 true 0,⟨some 13,some (11,true),.mkfn 148 [(.t 5)]⟩,k2G 14 11 true 147 12 13,nG 15 11 true 14,aN 16 11 15,m 6 16]) <|
 .ret⟩
theorem c92:cFunc Tryz.prog 92 false (hintC F92.body)=some F92:=by kernel_rfl
def F93:IFunc:=⟨1,14,[.tmp 2],false,.seq (rg [1] [bx 1 0,mb 2 false]) <|
 .seq (rg [2] [fa 3 1 1,l1 4 3,fa 5 2 1,l1 6 5,k2 7 88 4 6,m 8 7,fG 9 8 true 3 1,lG 10 8 true 9,⟨some 11,some (8,true),.bslice 1 1 [i0] [(0,1,(.t 10))]⟩,k1G 12 8 true 89 11,aN 13 8 12,m 2 13]) <|
 .ret⟩
theorem c93:cFunc Tryz.prog 93 false (hintC F93.body)=some F93:=by kernel_rfl
def L94_0:IC :=
 .seq (rg [0,1,7,8,9] [bt 9 .lss 8 7]) <|
 .seq (.cond [0,1,7,8] (.t 9) (.skip) (.exit 0)) <|
 .seq (.block [0,1,7,8] 1 <|
 .seq (rg [0,1,5,7,8] [m 10 8,m 5 10]) <|
 .seq (rg [0,1,5,7,8,16] [m 11 1,m 12 0,m 13 5,ia 14 11 12 13,la 15 11 14,⟨some 16,none,.call (.t 11) [(.t 15)]⟩]) <|
 .cond [0,1,7,8] (.t 16) (.seq (rg [4] [m 17 5,m 4 17]) <|
 .ret) (.skip)) <|
 rg [0,1,7,8] [bc 18 .add 8 1,m 8 18]
def F94:IFunc:=⟨2,19,[.tmp 4],false,.seq (rg [0,1] [mi 4 0]) <|
 .seq (.seq (rg [0,1,7,8] [m 6 0,ln 7 6,mi 8 0]) <|
 .block [] 0 <|
 .loop [0,1,7,8] [] L94_0) <|
 .seq (rg [4] [mi 4 (-1)]) <|
 .ret⟩
theorem c94:cFunc Tryz.prog 94 false (hintC F94.body)=some F94:=by kernel_rfl
def F95:IFunc:=⟨2,8,[.tmp 3],false,.seq (rg [1,2] [bx 2 0,mb 3 false]) <|
 .seq (.drw [3] 0 <|tk (la 4 11 2) <|tk (la 6 2 1) <|.one (k1 5 96 4) <|tk ⟨some 7,none,.eqs false true [.i,.i] (.t 5) (.t 6)⟩ <|.free <|tk (m 3 7) <|.leaf) <|
 .ret⟩
theorem c95:cFunc Tryz.prog 95 false (hintC F95.body)=some F95:=by kernel_rfl
def F96:IFunc:=⟨1,8,[.cell 2 true 2],false,.seq (rg [1,2] [bx 1 0,⟨some 2,none,.alloc [zi,zi]⟩]) <|
 .seq (rg [2] [fa 3 0 1,l1 4 3,fa 5 1 1,l1 6 5,⟨some 7,none,.build [gi,gi] [(0,1,(.t 4)),(1,1,(.t 6))]⟩,st 2 2 7]) <|
 .ret⟩
theorem c96:cFunc Tryz.prog 96 false (hintC F96.body)=some F96:=by kernel_rfl
def L97_0:IC :=
 .seq (rg [1,8,9,10,11] [bt 11 .lss 10 9]) <|
 .seq (.cond [1,8,9,10] (.t 11) (.skip) (.exit 0)) <|
 .seq (.block [1,8,9,10] 1 <|
 .seq (rg [1,6,8,9,10] [ia 12 2 8 10,la 13 2 12,⟨some 6,none,.alloc [zi,zi]⟩,st 2 6 13]) <|
 .seq (rg [1,6,8,9,10,17] [fa 14 0 6,l1 15 14,m 16 1,bt 17 .eql 15 16]) <|
 .cond [1,8,9,10] (.t 17) (.seq (rg [4] [fa 18 1 6,l1 19 18,m 4 19]) <|
 .ret) (.skip)) <|
 rg [1,8,9,10] [bc 20 .add 10 1,m 10 20]
def F97:IFunc:=⟨2,21,[.tmp 4],false,.seq (rg [1,2] [bx 2 0,mi 4 0]) <|
 .seq (.seq (rg [1,8,9,10] [fa 7 1 2,l1 8 7,ln 9 8,mi 10 0]) <|
 .block [] 0 <|
 .loop [1,8,9,10] [] L97_0) <|
 .seq (rg [4] [mi 4 (-1)]) <|
 .ret⟩
theorem c97:cFunc Tryz.prog 97 false (hintC F97.body)=some F97:=by kernel_rfl
def L98_0:IC :=
 .seq (rg [1,3,10,11,12,13] [bt 13 .lss 12 11]) <|
 .seq (.cond [1,3,10,11,12] (.t 13) (.skip) (.exit 0)) <|
 .seq (.block [1,3,10,11,12] 1 <|
 .seq (rg [1,3,5,10,11,12] [ia 14 11 10 12,la 15 11 14,⟨some 5,none,.alloc [zi,zi,zi,zi,zi,zi,zi,zi,zb,.s 6,.s 8]⟩,st 11 5 15]) <|
 rg [1,3,10,11,12] [m 16 3,fa 17 0 5,l1 18 17,⟨none,none,.mset .i (.t 16) (.t 18) (.c (.g (.bool true)))⟩]) <|
 rg [1,3,10,11,12] [bc 19 .add 12 1,m 12 19]
def L98_1:IC :=
 .seq (rg [3,21,22,23,24] [bt 24 .lss 23 22]) <|
 .seq (.cond [3,21,22,23] (.t 24) (.skip) (.exit 2)) <|
 .seq (.block [3,21,22,23] 3 <|
 .seq (rg [3,7,21,22,23] [ia 25 2 21 23,la 26 2 25,⟨some 7,none,.alloc [zi,zi]⟩,st 2 7 26]) <|
 rg [3,21,22,23] [m 27 3,fa 28 0 7,l1 29 28,⟨none,none,.mset .i (.t 27) (.t 29) (.c (.g (.bool true)))⟩]) <|
 rg [3,21,22,23] [bc 30 .add 23 1,m 23 30]
def F98:IFunc:=⟨1,34,[.tmp 2],false,.seq (rg [1] [bx 1 0,nr 2 1]) <|
 .seq (rg [1,3] [⟨some 8,none,.mkmap⟩,m 3 8]) <|
 .seq (.seq (rg [1,3,10,11,12] [fa 9 0 1,l1 10 9,ln 11 10,mi 12 0]) <|
 .block [1,3] 0 <|
 .loop [1,3,10,11,12] [] L98_0) <|
 .seq (.seq (rg [3,21,22,23] [fa 20 1 1,l1 21 20,ln 22 21,mi 23 0]) <|
 .block [3] 2 <|
 .loop [3,21,22,23] [] L98_1) <|
 .seq (rg [2] [m 31 3,k1 32 150 31,k1 33 149 32,m 2 33]) <|
 .ret⟩
theorem c98:cFunc Tryz.prog 98 false (hintC F98.body)=some F98:=by kernel_rfl
def F99:IFunc:=⟨2,9,[.tmp 4],false,.seq (rg [0,1] [mb 4 false]) <|
 .seq (rg [4] [m 5 0,m 6 1,k2 7 151 5 6,bc 8 .geq 7 0,m 4 8]) <|
 .ret⟩
theorem c99:cFunc Tryz.prog 99 false (hintC F99.body)=some F99:=by kernel_rfl
def F100:IFunc:=⟨2,37,[.tmp 4],false,.seq (rg [0,3] [bx 3 1,mi 4 0]) <|
 .seq (.drw [0,3,5,6] 0 <|tk (m 8 0) <|tk (nc 9 8) <|tk (fa 10 0 9) <|tk (fa 11 0 10) <|tk (la 12 4 11) <|tk (fa 13 7 3) <|tk (l1 14 13) <|.one (k2 15 31 12 14) <|tk (m 7 15) <|tk (ex 16 0 7) <|tk (ex 17 1 7) <|.free <|tk (m 5 16) <|tk (m 6 17) <|.leaf) <|
 .seq (.drw [6] 0 <|tk (m 18 0) <|tk (m 19 0) <|tk (m 20 5) <|tk (fa 21 4 3) <|tk (l1 22 21) <|tk (m 24 0) <|tk (nc 25 24) <|tk (fa 26 0 25) <|tk (fa 27 0 26) <|tk (fa 28 0 27) <|tk (l1 29 28) <|.one (k2 23 152 20 22) <|.free <|tk (nc 30 18) <|tk (fa 31 9 30) <|tk (fa 32 7 31) <|.one (st 1 32 23) <|tk (nc 33 19) <|tk (fa 34 9 33) <|tk (fa 35 3 34) <|.one (st 1 35 29) <|.leaf) <|
 .seq (rg [4] [m 36 6,m 4 36]) <|
 .ret⟩
theorem c100:cFunc Tryz.prog 100 false (hintC F100.body)=some F100:=by kernel_rfl
def L101_0:IC :=
 .seq (rg [0,3,18,19,20,21] [bt 21 .lss 20 19]) <|
 .seq (.cond [0,3,18,19,20] (.t 21) (.skip) (.exit 0)) <|
 .seq (.block [0,3,18,19,20] 1 <|
 .seq (rg [0,3,6,18,19,20] [ia 22 4 18 20,la 23 4 22,⟨some 6,none,.alloc [zb,zs,zs,zi]⟩,st 4 6 23]) <|
 .seq (.drw [0,3,18,19,20,42] 0 <|tk (fa 24 0 6) <|tk (l1 25 24) <|tk (nt 26 25) <|tk (m 27 26) <|tk (fG 28 27 true 3 6) <|tk (lG 29 27 true 28) <|tk (bcG 30 27 true .neq 29 0) <|tk (aN 31 27 30) <|tk (m 32 31) <|tk (mG 33 32 true 0) <|tk ⟨some 34,some (32,true),.nilchk (.t 33)⟩ <|tk (fG 35 32 true 0 34) <|tk (fG 36 32 true 4 35) <|tk (laG 37 32 true 2 36) <|tk (fG 38 32 true 3 6) <|tk (lG 39 32 true 38) <|.one (k2G 40 32 true 62 37 39) <|tk (nG 41 32 true 40) <|tk (aN 42 32 41) <|.leaf) <|
 .cond [0,3,18,19,20] (.t 42) (.seq (rg [4] [mi 4 6]) <|
 .ret) (.skip)) <|
 rg [0,3,18,19,20] [bc 43 .add 20 1,m 20 43]
def F101:IFunc:=⟨2,74,[.tmp 4],false,.seq (rg [0,3] [bx 3 1,mi 4 0]) <|
 .seq (.seq (rg [0,3,18,19,20] [fa 11 10 3,fa 12 1 11,l1 13 12,fa 14 10 3,fa 15 2 14,l1 16 15,⟨some 17,none,.bslice 1 2 [.nsl] [(0,1,(.t 13)),(1,1,(.t 16))]⟩,k1 18 153 17,ln 19 18,mi 20 0]) <|
 .block [0,3] 0 <|
 .loop [0,3,18,19,20] [] L101_0) <|
 .seq (.drw [0,7,8,10] 1 <|tk (m 45 0) <|tk (nc 46 45) <|tk (fa 47 0 46) <|tk (fa 48 0 47) <|tk (la 49 4 48) <|tk (fa 50 10 3) <|tk (la 51 3 50) <|
 .alt (k2 52 154 49 51) (tk (m 44 52) <|tk (ex 53 0 44) <|tk (ex 54 1 44) <|tk (ex 55 2 44) <|tk (ex 56 3 44) <|.one ⟨some 7,none,.allocAt 0 [zi,zi,.s 6,.s 8]⟩ <|.free <|.one (st 4 7 53) <|tk (m 8 54) <|tk (m 9 55) <|tk (m 10 56) <|.leaf) (.one ⟨some 7,none,.allocAt 0 [zi,zi,.s 6,.s 8]⟩ <|.one (k2 52 154 49 51) <|tk (m 44 52) <|tk (ex 53 0 44) <|tk (ex 54 1 44) <|tk (ex 55 2 44) <|tk (ex 56 3 44) <|.free <|.one (st 4 7 53) <|tk (m 8 54) <|tk (m 9 55) <|tk (m 10 56) <|.leaf)) <|
 .seq (.drw [10] 0 <|tk (m 57 0) <|tk (m 58 0) <|tk (m 59 0) <|tk (la 60 4 7) <|tk (m 61 8) <|tk (fa 62 0 7) <|tk (l1 63 62) <|tk (nc 64 57) <|tk (fa 65 0 64) <|tk (fa 66 0 65) <|.one (st 4 66 60) <|tk (nc 67 58) <|tk (fa 68 9 67) <|tk (fa 69 6 68) <|.one (st 1 69 61) <|.free <|tk (nc 70 59) <|tk (fa 71 9 70) <|tk (fa 72 3 71) <|.one (st 1 72 63) <|.leaf) <|
 .seq (rg [4] [m 73 10,m 4 73]) <|
 .ret⟩
theorem c101:cFunc Tryz.prog 101 false (hintC F101.body)=some F101:=by kernel_rfl
def F102:IFunc:=⟨2,33,[.tmp 4],false,.seq (rg [0,3] [bx 3 1,mi 4 0]) <|
 .seq (.drw [0,5,6,7] 0 <|tk (m 9 0) <|tk (nc 10 9) <|tk (fa 11 0 10) <|tk (fa 12 0 11) <|tk (la 13 4 12) <|tk (fa 14 4 3) <|tk (l1 15 14) <|tk (fa 16 7 3) <|tk (l1 17 16) <|.one ⟨some 18,none,.call (.c (.g (.fn 155))) [(.t 13),(.t 15),(.t 17),(.c (.g (.int .i64 30)))]⟩ <|tk (m 8 18) <|tk (ex 19 0 8) <|tk (ex 20 1 8) <|tk (ex 21 2 8) <|.free <|tk (m 5 19) <|tk (m 6 20) <|tk (m 7 21) <|.leaf) <|
 .seq (rg [7] [m 22 0,m 23 0,m 24 5,m 25 6,nc 26 22,fa 27 9 26,fa 28 8 27,st 1 28 24,nc 29 23,fa 30 9 29,fa 31 3 30,st 1 31 25]) <|
 .seq (rg [4] [m 32 7,m 4 32]) <|
 .ret⟩
theorem c102:cFunc Tryz.prog 102 false (hintC F102.body)=some F102:=by kernel_rfl
def F103:IFunc:=⟨2,42,[.tmp 4],false,.seq (rg [0,3] [bx 3 1,mi 4 0]) <|
 .seq (.drw [0,3,5,6,7] 1 <|tk (m 9 0) <|tk (nc 10 9) <|tk (fa 11 0 10) <|tk (fa 12 4 11) <|tk (la 13 2 12) <|tk (fa 14 8 3) <|tk (l1 15 14) <|tk (m 16 0) <|tk (nc 17 16) <|tk (fa 18 0 17) <|tk (fa 19 8 18) <|tk (l1 20 19) <|
 .alt (k3 21 156 13 15 20) (tk (m 8 21) <|tk (ex 22 0 8) <|tk (ex 23 1 8) <|tk (ex 24 2 8) <|.one ⟨some 5,none,.allocAt 0 [zi,.s 3]⟩ <|.free <|.one (st 2 5 22) <|tk (m 6 23) <|tk (m 7 24) <|.leaf) (.one ⟨some 5,none,.allocAt 0 [zi,.s 3]⟩ <|.one (k3 21 156 13 15 20) <|tk (m 8 21) <|tk (ex 22 0 8) <|tk (ex 23 1 8) <|tk (ex 24 2 8) <|.free <|.one (st 2 5 22) <|tk (m 6 23) <|tk (m 7 24) <|.leaf)) <|
 .seq (.drw [7] 0 <|tk (m 25 0) <|tk (m 26 0) <|tk (m 27 0) <|tk (la 28 2 5) <|tk (m 29 6) <|tk (fa 30 8 3) <|tk (l1 31 30) <|tk (nc 32 25) <|tk (fa 33 0 32) <|tk (fa 34 4 33) <|.one (st 2 34 28) <|tk (nc 35 26) <|tk (fa 36 9 35) <|tk (fa 37 4 36) <|.one (st 1 37 29) <|.free <|tk (nc 38 27) <|tk (fa 39 9 38) <|tk (fa 40 5 39) <|.one (st 1 40 31) <|.leaf) <|
 .seq (rg [4] [m 41 7,m 4 41]) <|
 .ret⟩
theorem c103:cFunc Tryz.prog 103 false (hintC F103.body)=some F103:=by kernel_rfl
def F104:IFunc:=⟨2,42,[.tmp 4],false,.seq (rg [0,3] [bx 3 1,mi 4 0]) <|
 .seq (.drw [0,3,5,6,7] 1 <|tk (m 9 0) <|tk (nc 10 9) <|tk (fa 11 0 10) <|tk (fa 12 4 11) <|tk (la 13 2 12) <|tk (fa 14 6 3) <|tk (l1 15 14) <|tk (m 16 0) <|tk (nc 17 16) <|tk (fa 18 0 17) <|tk (fa 19 8 18) <|tk (l1 20 19) <|
 .alt (k3 21 157 13 15 20) (tk (m 8 21) <|tk (ex 22 0 8) <|tk (ex 23 1 8) <|tk (ex 24 2 8) <|.one ⟨some 5,none,.allocAt 0 [zi,.s 3]⟩ <|.free <|.one (st 2 5 22) <|tk (m 6 23) <|tk (m 7 24) <|.leaf) (.one ⟨some 5,none,.allocAt 0 [zi,.s 3]⟩ <|.one (k3 21 157 13 15 20) <|tk (m 8 21) <|tk (ex 22 0 8) <|tk (ex 23 1 8) <|tk (ex 24 2 8) <|.free <|.one (st 2 5 22) <|tk (m 6 23) <|tk (m 7 24) <|.leaf)) <|
 .seq (.drw [7] 0 <|tk (m 25 0) <|tk (m 26 0) <|tk (m 27 0) <|tk (la 28 2 5) <|tk (fa 29 6 3) <|tk (l1 30 29) <|tk (m 31 6) <|tk (nc 32 25) <|tk (fa 33 0 32) <|tk (fa 34 4 33) <|.one (st 2 34 28) <|.free <|tk (nc 35 26) <|tk (fa 36 9 35) <|tk (fa 37 4 36) <|.one (st 1 37 30) <|tk (nc 38 27) <|tk (fa 39 9 38) <|tk (fa 40 5 39) <|.one (st 1 40 31) <|.leaf) <|
 .seq (rg [4] [m 41 7,m 4 41]) <|
 .ret⟩
theorem c104:cFunc Tryz.prog 104 false (hintC F104.body)=some F104:=by kernel_rfl
def F105:IFunc:=⟨2,35,[.tmp 4],false,.seq (rg [0,3] [bx 3 1,mi 4 0]) <|
 .seq (.drw [0,3,5,6] 1 <|tk (m 8 0) <|tk (nc 9 8) <|tk (fa 10 0 9) <|tk (la 11 9 10) <|tk (fa 12 6 3) <|tk (l1 13 12) <|
 .alt (k2 14 25 11 13) (tk (m 7 14) <|tk (ex 15 0 7) <|tk (ex 16 1 7) <|.one ⟨some 5,none,.allocAt 0 [zi,zi,.s 6,.s 8,zi,.s 3,.s 11,.s 2,zi]⟩ <|.free <|.one (st 9 5 15) <|tk (m 6 16) <|.leaf) (.one ⟨some 5,none,.allocAt 0 [zi,zi,.s 6,.s 8,zi,.s 3,.s 11,.s 2,zi]⟩ <|.one (k2 14 25 11 13) <|tk (m 7 14) <|tk (ex 15 0 7) <|tk (ex 16 1 7) <|.free <|.one (st 9 5 15) <|tk (m 6 16) <|.leaf)) <|
 .seq (.drw [6] 0 <|tk (m 17 0) <|tk (m 18 0) <|tk (m 19 0) <|tk (la 20 9 5) <|tk (fa 21 6 3) <|tk (l1 22 21) <|tk (fa 23 0 5) <|tk (fa 24 0 23) <|tk (l1 25 24) <|tk (nc 26 17) <|tk (fa 27 0 26) <|.one (st 9 27 20) <|tk (nc 28 18) <|tk (fa 29 9 28) <|tk (fa 30 4 29) <|.one (st 1 30 22) <|.free <|tk (nc 31 19) <|tk (fa 32 9 31) <|tk (fa 33 3 32) <|.one (st 1 33 25) <|.leaf) <|
 .seq (rg [4] [m 34 6,m 4 34]) <|
 .ret⟩
theorem c105:cFunc Tryz.prog 105 false (hintC F105.body)=some F105:=by kernel_rfl
def F106:IFunc:=⟨2,30,[.tmp 4],false,.seq (rg [0,3] [bx 3 1,mi 4 0]) <|
 .seq (.drw [0,5,6] 1 <|tk (m 8 0) <|tk (nc 9 8) <|tk (fa 10 0 9) <|tk (fa 11 0 10) <|tk (la 12 4 11) <|tk (fa 13 7 3) <|tk (l1 14 13) <|
 .alt (k2 15 65 12 14) (tk (m 7 15) <|tk (ex 16 0 7) <|tk (ex 17 1 7) <|.one ⟨some 5,none,.allocAt 0 [zi,zi,.s 6,.s 8]⟩ <|.free <|.one (st 4 5 16) <|tk (m 6 17) <|.leaf) (.one ⟨some 5,none,.allocAt 0 [zi,zi,.s 6,.s 8]⟩ <|.one (k2 15 65 12 14) <|tk (m 7 15) <|tk (ex 16 0 7) <|tk (ex 17 1 7) <|.free <|.one (st 4 5 16) <|tk (m 6 17) <|.leaf)) <|
 .seq (.drw [6] 0 <|tk (m 18 0) <|tk (m 19 0) <|tk (la 20 4 5) <|tk (fa 21 0 5) <|tk (l1 22 21) <|tk (nc 23 18) <|tk (fa 24 0 23) <|tk (fa 25 0 24) <|.one (st 4 25 20) <|.free <|tk (nc 26 19) <|tk (fa 27 9 26) <|tk (fa 28 3 27) <|.one (st 1 28 22) <|.leaf) <|
 .seq (rg [4] [m 29 6,m 4 29]) <|
 .ret⟩
theorem c106:cFunc Tryz.prog 106 false (hintC F106.body)=some F106:=by kernel_rfl
def L107_0:IC :=
 .seq (rg [0,3,9,10,11,12] [bt 12 .lss 11 10]) <|
 .seq (.cond [0,3,9,10,11] (.t 12) (.skip) (.exit 0)) <|
 .seq (.block [0,3,9,10,11] 1 <|
 .seq (rg [0,3,5,9,10,11] [ia 13 1 9 11,l1 14 13,m 5 14]) <|
 .seq (rg [0,3,9,10,11] [m 15 3,m 16 5,ln 17 16,bt 18 .add 15 17,m 3 18]) <|
 .seq (rg [0,3,9,10,11,20] [m 19 3,bc 20 .lss 19 0]) <|
 .cond [0,3,9,10,11] (.t 20) (rg [0,3,9,10,11] [⟨some 21,none,.mkif 9 (.c (.g (.str [108,101,110,32,111,117,116,32,111,102,32,114,97,110,103,101])))⟩,⟨none,none,.row 0 []⟩]) (.skip)) <|
 rg [0,3,9,10,11] [bc 22 .add 11 1,m 11 22]
def L107_1:IC :=
 .seq (rg [6,25,26,27,28] [bt 28 .lss 27 26]) <|
 .seq (.cond [6,25,26,27] (.t 28) (.skip) (.exit 2)) <|
 .seq (.block [6,25,26,27] 3 <|
 .seq (rg [6,8,25,26,27] [ia 29 1 25 27,l1 30 29,m 8 30]) <|
 rg [6,25,26,27] [m 31 6,m 32 8,ap 33 11 120 31 32,m 6 33]) <|
 rg [6,25,26,27] [bc 34 .add 27 1,m 27 34]
def F107:IFunc:=⟨1,36,[.tmp 2],true,.seq (rg [0] [nr 2 11]) <|
 .seq (rg [0,3] [mi 3 0]) <|
 .seq (.seq (rg [0,3,9,10,11] [m 9 0,ln 10 9,mi 11 0]) <|
 .block [0,3] 0 <|
 .loop [0,3,9,10,11] [] L107_0) <|
 .seq (rg [0,6] [m 23 3,⟨some 24,none,.call (.c (.g (.fn 158))) [(.c (.g (.nsl))),(.t 23)]⟩,m 6 24]) <|
 .seq (.seq (rg [6,25,26,27] [m 25 0,ln 26 25,mi 27 0]) <|
 .block [6] 2 <|
 .loop [6,25,26,27] [] L107_1) <|
 .seq (rg [2] [m 35 6,m 2 35]) <|
 .ret⟩
theorem c107:cFunc Tryz.prog 107 true (hintC F107.body)=some F107:=by kernel_rfl
def L108_0:IC :=
 .seq (rg [1,5,9,10,11,12] [bt 12 .lss 11 10]) <|
 .seq (.cond [1,5,9,10,11] (.t 12) (.skip) (.exit 0)) <|
 .seq (.block [1,5,9,10,11] 1 <|
 .seq (rg [1,5,7,9,10,11] [ia 13 11 9 11,la 14 11 13,⟨some 7,none,.alloc [zi,zi,zi,zi,zi,zi,zi,zi,zb,.s 6,.s 8]⟩,st 11 7 14]) <|
 .seq (rg [1,5,7,9,10,11,18] [fa 15 0 7,l1 16 15,m 17 1,bt 18 .eql 16 17]) <|
 .cond [1,5,9,10,11] (.t 18) (rg [1,5,9,10,11] [m 19 5,fa 20 1 7,l1 21 20,⟨some 22,none,.bslice 1 1 [i0] [(0,1,(.t 21))]⟩,ap 23 1 8 19 22,m 5 23]) (.skip)) <|
 rg [1,5,9,10,11] [bc 24 .add 11 1,m 11 24]
def F108:IFunc:=⟨2,28,[.tmp 4],false,.seq (rg [1,2] [bx 2 0,nr 4 1]) <|
 .seq (rg [1,2,5] [nr 5 1]) <|
 .seq (.seq (rg [1,5,9,10,11] [fa 8 0 2,l1 9 8,ln 10 9,mi 11 0]) <|
 .block [5] 0 <|
 .loop [1,5,9,10,11] [] L108_0) <|
 .seq (rg [5] [m 25 5,k1 26 159 25]) <|
 .seq (rg [4] [m 27 5,m 4 27]) <|
 .ret⟩
theorem c108:cFunc Tryz.prog 108 false (hintC F108.body)=some F108:=by kernel_rfl
def F109:IFunc:=⟨3,13,[.tmp 4],false,.seq (rg [1,2,3] [bx 3 0,mb 4 false]) <|
 .seq (.drw [4] 0 <|tk (la 5 11 3) <|tk (l1 7 1) <|tk (l1 8 2) <|tk ⟨some 9,none,.iaddr 1 (.t 8) (.c (.g (.int .i64 0)))⟩ <|tk (l1 10 9) <|tk ⟨some 11,none,.build [gi,gi] [(0,1,(.t 7)),(1,1,(.t 10))]⟩ <|.one (k1 6 96 5) <|tk ⟨some 12,none,.eqs false true [.i,.i] (.t 6) (.t 11)⟩ <|.free <|tk (m 4 12) <|.leaf) <|
 .ret⟩
theorem c109:cFunc Tryz.prog 109 false (hintC F109.body)=some F109:=by kernel_rfl
def F110:IFunc:=⟨3,33,[.tmp 6],false,.seq (rg [0,1,2] [nr 6 11]) <|
 .seq (rg [0,1,2] [m 8 0,m 9 1,m 10 2,m 11 0,ln 12 11,⟨some 13,none,.slc3 11 (.t 8) (some (.t 9)) (some (.t 10)) (some (.t 12))⟩]) <|
 .seq (.seq (rg [0,1,2,16] [m 14 1,m 15 2,bt 16 .eql 14 15]) <|
 .cond [0,1,2] (.t 16) (.seq (rg [6] [m 17 0,m 6 17]) <|
 .ret) (.skip)) <|
 .seq (rg [0,1,2,7] [m 18 0,ln 19 18,m 7 19]) <|
 .seq (.drw [0,7] 0 <|.free <|tk (m 20 0) <|tk (m 21 1) <|tk ⟨some 22,none,.slc 11 (.t 20) none (some (.t 21))⟩ <|tk (m 23 0) <|tk (m 24 2) <|tk ⟨some 25,none,.slc 11 (.t 23) (some (.t 24)) none⟩ <|.one (ap 26 11 120 22 25) <|tk (m 0 26) <|.leaf) <|
 .seq (rg [0] [m 27 0,m 28 0,ln 29 28,m 30 7,⟨some 31,none,.slc 11 (.t 27) (some (.t 29)) (some (.t 30))⟩,⟨none,none,.clear [i0,i0,i0,i0,i0,i0,i0,i0,b0,.nsl,.nsl] (.t 31)⟩]) <|
 .seq (rg [6] [m 32 0,m 6 32]) <|
 .ret⟩
theorem c110:cFunc Tryz.prog 110 false (hintC F110.body)=some F110:=by kernel_rfl
def F111:IFunc:=⟨3,34,[.tmp 6],false,.seq (rg [0,2,4] [bx 4 1,nr 6 2]) <|
 .seq (rg [0,2,4,7] [m 8 0,⟨some 9,none,.mkfn 161 [(.t 4)]⟩,k2 10 160 8 9,m 7 10]) <|
 .seq (.seq (rg [0,2,4,7,12] [m 11 7,bc 12 .lss 11 0]) <|
 .cond [0,2,7] (.t 12) (.seq (rg [6] [m 13 0,l1 14 4,m 15 2,⟨some 16,none,.build [gi,gi] [(0,1,(.t 14)),(1,1,(.t 15))]⟩,⟨some 17,none,.bslice 2 1 [i0,i0] [(0,2,(.t 16))]⟩,⟨some 18,none,.bslice 1 2 [.nsl] [(0,1,(.t 13)),(1,1,(.t 17))]⟩,k1 19 162 18,m 6 19]) <|
 .ret) (.skip)) <|
 .seq (rg [0,2,7] [m 20 0,k1 21 163 20,m 0 21]) <|
 .seq (rg [0] [m 22 0,m 23 7,m 24 0,m 25 7,ia 26 2 24 25,fa 27 1 26,l1 28 27,m 29 2,⟨some 30,none,.mx (.t 28) [(.t 29)]⟩,ia 31 2 22 23,fa 32 1 31,st 1 32 30]) <|
 .seq (rg [6] [m 33 0,m 6 33]) <|
 .ret⟩
theorem c111:cFunc Tryz.prog 111 false (hintC F111.body)=some F111:=by kernel_rfl
def F112:IFunc:=⟨1,8,[.tmp 2],false,.seq (rg [0] [nr 2 6]) <|
 .seq (.seq (rg [0,4] [m 3 0,⟨some 4,none,.isnilS false (.t 3)⟩]) <|
 .cond [0] (.t 4) (.seq (rg [2] [nr 2 6]) <|
 .ret) (.skip)) <|
 .seq (rg [2] [⟨some 5,none,.mk0 6⟩,m 6 0,ap 7 6 64 5 6,m 2 7]) <|
 .ret⟩
theorem c112:cFunc Tryz.prog 112 false (hintC F112.body)=some F112:=by kernel_rfl
def F113:IFunc:=⟨2,23,[.tmp 4],false,.seq (rg [0,1] [nr 4 6]) <|
 .seq (rg [0,5] [m 6 0,m 7 1,k1 8 164 7,k2 9 131 6 8,m 5 9]) <|
 .seq (.seq (rg [0,5,11] [m 10 5,bc 11 .lss 10 0]) <|
 .cond [0,5] (.t 11) (.seq (rg [4] [m 12 0,k1 13 112 12,m 4 13]) <|
 .ret) (.skip)) <|
 .seq (.drw [4] 0 <|.free <|tk (m 14 0) <|tk (m 15 5) <|tk ⟨some 16,none,.slc 6 (.t 14) none (some (.t 15))⟩ <|tk (m 17 0) <|tk (m 18 5) <|tk (bc 19 .add 18 1) <|tk ⟨some 20,none,.slc 6 (.t 17) (some (.t 19)) none⟩ <|.one ⟨some 21,none,.bslice 1 2 [.nsl] [(0,1,(.t 16)),(1,1,(.t 20))]⟩ <|.one (k1 22 165 21) <|tk (m 4 22) <|.leaf) <|
 .ret⟩
theorem c113:cFunc Tryz.prog 113 false (hintC F113.body)=some F113:=by kernel_rfl
def L114_0:IC :=
 .seq (rg [3,5,6,9,10,11,12] [bt 12 .lss 11 10]) <|
 .seq (.cond [3,5,6,9,10,11] (.t 12) (.skip) (.exit 0)) <|
 .seq (.block [3,5,6,9,10,11] 1 <|
 .seq (rg [3,5,6,8,9,10,11] [ia 13 6 9 11,la 14 6 13,⟨some 8,none,.alloc [zs,zs,zi,zi,zi,zi]⟩,st 6 8 14]) <|
 .seq (.block [3,5,9,10,11] 2 <|
 .seq (rg [3,5,6,8,9,10,11,20] [m 21 6,m 22 21,fG 23 22 false 0 8,lG 24 22 false 23,fG 25 22 false 0 3,lG 26 22 false 25,btG 27 22 false .lss 24 26,oR 28 22 27,m 20 28]) <|
 .cond [3,5,9,10,11] (.t 20) (.seq (rg [3,5,6,9,10,11] [m 29 5,la 30 6 8,⟨some 31,none,.bslice 6 1 [s0,s0,i0,i0,i0,i0] [(0,6,(.t 30))]⟩,ap 32 6 64 29 31,m 5 32]) <|
 .exit 1) (.seq (rg [3,5,8,9,10,11,33] [fa 34 0 8,l1 35 34,fa 36 0 3,l1 37 36,bt 38 .eql 35 37,m 33 38]) <|
 .cond [3,5,9,10,11] (.t 33) (rg [3,5,9,10,11] [m 39 5,la 40 6 3,⟨some 41,none,.bslice 6 1 [s0,s0,i0,i0,i0,i0] [(0,6,(.t 40))]⟩,ap 42 6 64 39 41,m 5 42]) (rg [3,5,9,10,11] [m 15 5,la 16 6 3,la 17 6 8,⟨some 18,none,.bslice 6 2 [s0,s0,i0,i0,i0,i0] [(0,6,(.t 16)),(6,6,(.t 17))]⟩,ap 19 6 64 15 18,m 5 19]))) <|
 rg [3,5,6,9,10,11] [mb 6 true]) <|
 rg [3,5,6,9,10,11] [bc 43 .add 11 1,m 11 43]
def F114:IFunc:=⟨2,51,[.tmp 4],false,.seq (rg [0,3] [bx 3 1,nr 4 6]) <|
 .seq (rg [0,3,5] [nr 5 6]) <|
 .seq (rg [0,3,5,6] [mb 6 false]) <|
 .seq (.skip) <|
 .seq (.seq (rg [3,5,6,9,10,11] [m 9 0,ln 10 9,mi 11 0]) <|
 .block [3,5,6] 0 <|
 .loop [3,5,6,9,10,11] [] L114_0) <|
 .seq (.seq (rg [3,5,45] [m 44 6,nt 45 44]) <|
 .cond [5] (.t 45) (rg [5] [m 46 5,la 47 6 3,⟨some 48,none,.bslice 6 1 [s0,s0,i0,i0,i0,i0] [(0,6,(.t 47))]⟩,ap 49 6 64 46 48,m 5 49]) (.skip)) <|
 .seq (rg [4] [m 50 5,m 4 50]) <|
 .ret⟩
theorem c114:cFunc Tryz.prog 114 false (hintC F114.body)=some F114:=by kernel_rfl
def L115_0:IC :=
 .seq (.seq (rg [0,1,2,7,20] [m 9 7,m 10 0,ln 11 10,bt 12 .lss 9 11,m 13 12,mG 14 13 true 0,mG 15 13 true 7,iG 16 13 true 1 14 15,lG 17 13 true 16,mG 18 13 true 1,btG 19 13 true .lss 17 18,aN 20 13 19]) <|
 .cond [0,1,2,7] (.t 20) (.skip) (.exit 0)) <|
 .block [0,1,2,7] 1 <|
 rg [0,1,2,7] [m 21 7,bc 22 .add 21 1,m 7 22]
def F115:IFunc:=⟨3,53,[.tmp 6],false,.seq (rg [0,1,2] [nr 6 1]) <|
 .seq (rg [0,1,2,7] [mi 7 0]) <|
 .seq (.block [0,1,2,7] 0 <|
 .loop [0,1,2,7] [] L115_0) <|
 .seq (.seq (rg [0,1,7,37] [m 23 2,m 24 23,mG 25 24 true 7,mG 26 24 true 0,lnG 27 24 true 26,btG 28 24 true .lss 25 27,aN 29 24 28,m 30 29,mG 31 30 true 0,mG 32 30 true 7,iG 33 30 true 1 31 32,lG 34 30 true 33,mG 35 30 true 1,btG 36 30 true .eql 34 35,aN 37 30 36]) <|
 .cond [0,1,7] (.t 37) (.seq (rg [6] [m 38 0,m 6 38]) <|
 .ret) (.skip)) <|
 .seq (rg [0,1,7,8] [⟨some 39,none,.mk0 1⟩,m 40 0,m 41 7,⟨some 42,none,.slc 1 (.t 40) none (some (.t 41))⟩,ap 43 1 8 39 42,m 8 43]) <|
 .seq (rg [0,7,8] [m 44 8,m 45 1,⟨some 46,none,.bslice 1 1 [i0] [(0,1,(.t 45))]⟩,ap 47 1 8 44 46,m 8 47]) <|
 .seq (rg [6] [m 48 8,m 49 0,m 50 7,⟨some 51,none,.slc 1 (.t 49) (some (.t 50)) none⟩,ap 52 1 8 48 51,m 6 52]) <|
 .ret⟩
theorem c115:cFunc Tryz.prog 115 false (hintC F115.body)=some F115:=by kernel_rfl
def L123_0:IC :=
 .seq (rg [3,6,7,8,9] [bt 9 .lss 8 7]) <|
 .seq (.cond [3,6,7,8] (.t 9) (.skip) (.exit 0)) <|
 .seq (.block [3,6,7,8] 1 <|
 .seq (rg [3,5,6,7,8] [ia 10 6 6 8,la 11 6 10,⟨some 5,none,.alloc [zs,zs,zi,zi,zi,zi]⟩,st 6 5 11]) <|
 .seq (.seq (rg [5,6,7,8,20] [la 12 6 5,k1 13 168 12,nt 14 13,m 15 14,fG 16 15 false 0 5,lG 17 15 false 16,mG 18 15 false 3,btG 19 15 false .leq 17 18,oR 20 15 19]) <|
 .cond [5,6,7,8] (.t 20) (.seq (rg [2] [mb 2 false]) <|
 .ret) (.skip)) <|
 rg [3,6,7,8] [fa 21 0 5,l1 22 21,m 3 22]) <|
 rg [3,6,7,8] [bc 23 .add 8 1,m 8 23]
def F123:IFunc:=⟨1,24,[.tmp 2],false,.seq (rg [0] [mb 2 false]) <|
 .seq (rg [0,3] [⟨some 3,none,.mov (.c (.g (.str [])))⟩]) <|
 .seq (.seq (rg [3,6,7,8] [m 6 0,ln 7 6,mi 8 0]) <|
 .block [] 0 <|
 .loop [3,6,7,8] [] L123_0) <|
 .seq (rg [2] [mb 2 true]) <|
 .ret⟩
theorem c123:cFunc Tryz.prog 123 false (hintC F123.body)=some F123:=by kernel_rfl
def F124:IFunc:=⟨2,9,[.tmp 3],false,.seq (rg [1,2] [bx 2 0,mb 3 false]) <|
 .seq (rg [3] [fa 4 3 2,l1 5 4,fa 6 1 1,l1 7 6,bt 8 .gtr 5 7,m 3 8]) <|
 .ret⟩
theorem c124:cFunc Tryz.prog 124 false (hintC F124.body)=some F124:=by kernel_rfl
def F125:IFunc:=⟨2,49,[.tmp 4],false,.seq (rg [0,3] [bx 3 1,mb 4 false]) <|
 .seq (.seq (rg [0,3,9] [fa 8 1 3,l1 9 8]) <|
 .cond [0,3] (.t 9) (.seq (rg [3,5,6] [m 11 0,fa 12 2 3,fa 13 0 12,l1 14 13,k2 15 169 11 14,m 10 15,ex 16 0 10,ex 17 1 10,⟨some 5,none,.alloc [zs,zs,zi,zi,zi,zi]⟩,st 6 5 16,m 6 17]) <|
 .seq (rg [4] [m 18 6,m 19 18,laG 20 19 true 6 5,fG 21 19 true 2 3,laG 22 19 true 6 21,⟨some 23,some (19,true),.eqs false true [.s,.s,.i,.i,.i,.i] (.t 20) (.t 22)⟩,aN 24 19 23,m 4 24]) <|
 .ret) (.skip)) <|
 .seq (rg [3,7] [m 25 0,fa 26 2 3,fa 27 0 26,l1 28 27,fa 29 2 3,fa 30 1 29,l1 31 30,fa 32 2 3,fa 33 5 32,l1 34 33,⟨some 35,none,.build [gb,gs,gs,gi] [(1,1,(.t 28)),(2,1,(.t 31)),(3,1,(.t 34))]⟩,fa 36 0 3,l1 37 36,k3 38 170 25 35 37,⟨some 7,none,.alloc [zs,zs,zi,zi,zi,zi]⟩,st 6 7 38]) <|
 .seq (rg [4] [fa 39 2 3,la 40 6 39,la 41 6 7,⟨some 42,none,.eqs false true [.s,.s,.i,.i,.i,.i] (.t 40) (.t 41)⟩,m 43 42,fG 44 43 true 2 3,laG 45 43 true 6 44,⟨some 46,some (43,true),.bslice 6 1 [s0,s0,i0,i0,i0,i0] [(0,6,(.t 45))]⟩,k1G 47 43 true 123 46,aN 48 43 47,m 4 48]) <|
 .ret⟩
theorem c125:cFunc Tryz.prog 125 false (hintC F125.body)=some F125:=by kernel_rfl
def F126:IFunc:=⟨1,9,[.tmp 2],false,.seq (rg [0] [mb 2 false]) <|
 .seq (rg [2] [m 3 0,bc 4 .geq 3 0,m 5 4,mG 6 5 true 0,bcG 7 5 true .leq 6 1099511627775,aN 8 5 7,m 2 8]) <|
 .ret⟩
theorem c126:cFunc Tryz.prog 126 false (hintC F126.body)=some F126:=by kernel_rfl
def F127:IFunc:=⟨3,17,[.tmp 6],false,.seq (rg [0,1,5] [bx 5 2,mb 6 false]) <|
 .seq (rg [6] [m 7 0,ln 8 7,m 9 1,bt 10 .leq 8 9,m 11 10,mG 12 11 true 0,⟨some 13,some (11,true),.mkfn 171 [(.t 5)]⟩,k2G 14 11 true 60 12 13,nG 15 11 true 14,aN 16 11 15,m 6 16]) <|
 .ret⟩
theorem c127:cFunc Tryz.prog 127 false (hintC F127.body)=some F127:=by kernel_rfl
def F128:IFunc:=⟨1,20,[.tmp 2],false,.seq (rg [1] [bx 1 0,mb 2 false]) <|
 .seq (rg [2] [fa 3 0 1,l1 4 3,fa 5 1 1,l1 6 5,k2 7 88 4 6,m 8 7,fG 9 8 true 2 1,lG 10 8 true 9,fG 11 8 true 3 1,lG 12 8 true 11,fG 13 8 true 4 1,lG 14 8 true 13,fG 15 8 true 5 1,lG 16 8 true 15,⟨some 17,some (8,true),.bslice 1 4 [i0] [(0,1,(.t 10)),(1,1,(.t 12)),(2,1,(.t 14)),(3,1,(.t 16))]⟩,k1G 18 8 true 89 17,aN 19 8 18,m 2 19]) <|
 .ret⟩
theorem c128:cFunc Tryz.prog 128 false (hintC F128.body)=some F128:=by kernel_rfl
def F129:IFunc:=⟨3,17,[.tmp 6],false,.seq (rg [0,1,5] [bx 5 2,mb 6 false]) <|
 .seq (rg [6] [m 7 0,ln 8 7,m 9 1,bt 10 .leq 8 9,m 11 10,mG 12 11 true 0,⟨some 13,some (11,true),.mkfn 173 [(.t 5)]⟩,k2G 14 11 true 172 12 13,nG 15 11 true 14,aN 16 11 15,m 6 16]) <|
 .ret⟩
theorem c129:cFunc Tryz.prog 129 false (hintC F129.body)=some F129:=by kernel_rfl
def F130:IFunc:=⟨1,12,[.tmp 2],false,.seq (rg [1] [bx 1 0,mb 2 false]) <|
 .seq (rg [2] [fa 3 2 1,la 4 6 3,k1 5 128 4,m 6 5,fG 7 6 true 0 1,lG 8 6 true 7,⟨some 9,some (6,true),.bslice 1 1 [i0] [(0,1,(.t 8))]⟩,k1G 10 6 true 89 9,aN 11 6 10,m 2 11]) <|
 .ret⟩
theorem c130:cFunc Tryz.prog 130 false (hintC F130.body)=some F130:=by kernel_rfl
def L131_0:IC :=
 .seq (rg [0,1,7,8,9] [bt 9 .lss 8 7]) <|
 .seq (.cond [0,1,7,8] (.t 9) (.skip) (.exit 0)) <|
 .seq (.block [0,1,7,8] 1 <|
 .seq (rg [0,1,5,7,8] [m 10 8,m 5 10]) <|
 .seq (rg [0,1,5,7,8,16] [m 11 1,m 12 0,m 13 5,ia 14 6 12 13,la 15 6 14,⟨some 16,none,.call (.t 11) [(.t 15)]⟩]) <|
 .cond [0,1,7,8] (.t 16) (.seq (rg [4] [m 17 5,m 4 17]) <|
 .ret) (.skip)) <|
 rg [0,1,7,8] [bc 18 .add 8 1,m 8 18]
def F131:IFunc:=⟨2,19,[.tmp 4],false,.seq (rg [0,1] [mi 4 0]) <|
 .seq (.seq (rg [0,1,7,8] [m 6 0,ln 7 6,mi 8 0]) <|
 .block [] 0 <|
 .loop [0,1,7,8] [] L131_0) <|
 .seq (rg [4] [mi 4 (-1)]) <|
 .ret⟩
theorem c131:cFunc Tryz.prog 131 false (hintC F131.body)=some F131:=by kernel_rfl
def L132_0:IC :=
 .seq (rg [1,5,9,10,11,12] [bt 12 .lss 11 10]) <|
 .seq (.cond [1,5,9,10,11] (.t 12) (.skip) (.exit 0)) <|
 .seq (.block [1,5,9,10,11] 1 <|
 .seq (rg [1,5,6,7,9,10,11] [m 13 11,ia 14 3 9 11,la 15 3 14,⟨some 7,none,.alloc [zi,zi,zi]⟩,m 6 13,st 3 7 15]) <|
 .seq (.seq (rg [1,5,6,9,10,11,19] [fa 16 0 7,l1 17 16,m 18 1,bt 19 .neq 17 18]) <|
 .cond [6] (.t 19) (.exit 1) (.skip)) <|
 .seq (rg [5] [m 20 6,m 5 20]) <|
 .exit 0) <|
 rg [1,5,9,10,11] [bc 21 .add 11 1,m 11 21]
def F132:IFunc:=⟨2,23,[.tmp 4],false,.seq (rg [1,2] [bx 2 0,mi 4 0]) <|
 .seq (rg [1,2,5] [mi 5 (-1)]) <|
 .seq (.skip) <|
 .seq (.seq (rg [1,5,9,10,11] [fa 8 1 2,l1 9 8,ln 10 9,mi 11 0]) <|
 .block [5] 0 <|
 .loop [1,5,9,10,11] [] L132_0) <|
 .seq (rg [4] [m 22 5,m 4 22]) <|
 .ret⟩
theorem c132:cFunc Tryz.prog 132 false (hintC F132.body)=some F132:=by kernel_rfl
end
end Go.Proofs.YtndfdnlbljhlgaaGreat
