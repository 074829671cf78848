/- The library's sorts of whole numbers at this seat's numbers. No conditions. -/
import Derived.Test.YtndfdnlbljhlgaaGreatAMJ3
import Derived.KernelRfl
import Derived.Test.YtndfdnlbljhlgaaGreatProg
import Derived.Shelf.SortM.Plain
import Derived.Shelf.SortM.SortNone
import Derived.Shelf.SlIterI.Sorted
import Derived.Shelf.SlIterI.Keys
set_option maxRecDepth 20000
namespace Go.Proofs.YtndfdnlbljhlgaaGreat
open Go Go.AM Go.Proofs Go.RowKit Go.Maps Go.Sort Go.Shelf
def Zng:Go.Shelf.Ren:=⟨fun | 5=>159 | 8=>193 | 7=>192 | 19=>215 | 20=>216 | 10=>206 | 11=>207 | 12=>208 | 13=>209 | 14=>210 | 15=>211 | 16=>212 | 17=>213 | 18=>214 | 30=>219 | 31=>220 | 32=>221 | 33=>222 | 34=>223 | 35=>224 | 40=>229 | n=>n,fun | 23=>46 | 25=>3 | 3=>3 | 32=>216 | 22=>46 | 0=>0 | 44=>236 | 46=>238 | 4=>4 | 36=>230 | 35=>229 | 41=>158 | 5=>5 | 9=>9 | 53=>247 | 57=>251 | 63=>254 | 64=>255 | n=>n,fun | n=>n⟩
theorem sortA:Go.Proofs.SlLaysM.n5 Tryz.prog Zng where
 mixed:=by kernel_rfl
 f5 := ⟨ "slices.Sort[[]int,int]", by decide, Tryz.func159.trans (congrArg some (by kernel_rfl))⟩
 f7 := ⟨ "slices.pdqsortOrdered[int]", by decide, Tryz.func192.trans (congrArg some (by kernel_rfl))⟩
 f8:=Tryz.func193.trans (congrArg some (by kernel_rfl))
 f10 := ⟨ "slices.insertionSortOrdered[int]", by decide, Tryz.func206.trans (congrArg some (by kernel_rfl))⟩
 f11 := ⟨ "slices.heapSortOrdered[int]", by decide, Tryz.func207.trans (congrArg some (by kernel_rfl))⟩
 f12 := ⟨ "slices.breakPatternsOrdered[int]", by decide, Tryz.func208.trans (congrArg some (by kernel_rfl))⟩
 f13 := ⟨ "slices.choosePivotOrdered[int]", by decide, Tryz.func209.trans (congrArg some (by kernel_rfl))⟩
 f14 := ⟨ "slices.reverseRangeOrdered[int]", by decide, Tryz.func210.trans (congrArg some (by kernel_rfl))⟩
 f15 := ⟨ "slices.partialInsertionSortOrdered[int]", by decide, Tryz.func211.trans (congrArg some (by kernel_rfl))⟩
 f16 := ⟨ "cmp.Less[int]", by decide, Tryz.func212.trans (congrArg some (by kernel_rfl))⟩
 f17 := ⟨ "slices.partitionEqualOrdered[int]", by decide, Tryz.func213.trans (congrArg some (by kernel_rfl))⟩
 f18 := ⟨ "slices.partitionOrdered[int]", by decide, Tryz.func214.trans (congrArg some (by kernel_rfl))⟩
 f19:=Tryz.func215.trans (congrArg some (by kernel_rfl))
 f20:=Tryz.func216.trans (congrArg some (by kernel_rfl))
 f30 := ⟨ "slices.siftDownOrdered[int]", by decide, Tryz.func219.trans (congrArg some (by kernel_rfl))⟩
 f31:=Tryz.func220.trans (congrArg some (by kernel_rfl))
 f32:=Tryz.func221.trans (congrArg some (by kernel_rfl))
 f33 := ⟨ "slices.medianAdjacentOrdered[int]", by decide, Tryz.func222.trans (congrArg some (by kernel_rfl))⟩
 f34 := ⟨ "slices.medianOrdered[int]", by decide, Tryz.func223.trans (congrArg some (by kernel_rfl))⟩
 f35 := ⟨ "cmp.isNaN[int]", by decide, Tryz.func224.trans (congrArg some (by kernel_rfl))⟩
 f40 := ⟨ "slices.order2Ordered[int]", by decide, Tryz.func229.trans (congrArg some (by kernel_rfl))⟩
 t0:=Tryz.underlying0
 a0:=Tryz.isAgg0
 z0:=Tryz.sizeOf0
 v0:=Tryz.zeroValue0
 t3:=Tryz.underlying3
 a3:=Tryz.isAgg3
 z3:=Tryz.sizeOf3
 v3:=Tryz.zeroValue3
 t4:=Tryz.underlying4
 a4:=Tryz.isAgg4
 z4:=Tryz.sizeOf4
 v4:=Tryz.zeroValue4
 t5:=Tryz.underlying5
 a5:=Tryz.isAgg5
 z5:=Tryz.sizeOf5
 v5:=Tryz.zeroValue5
 t9:=Tryz.underlying9
 a9:=Tryz.isAgg9
 z9:=Tryz.sizeOf9
 v9:=Tryz.zeroValue9
 t22:=Tryz.underlying46
 a22:=Tryz.isAgg46
 z22:=Tryz.sizeOf46
 v22:=Tryz.zeroValue46
 t23:=Tryz.underlying46
 a23:=Tryz.isAgg46
 z23:=Tryz.sizeOf46
 v23:=Tryz.zeroValue46
 t25:=Tryz.underlying3
 a25:=Tryz.isAgg3
 z25:=Tryz.sizeOf3
 v25:=Tryz.zeroValue3
 t32:=Tryz.underlying216
 a32:=Tryz.isAgg216
 z32:=Tryz.sizeOf216
 v32:=Tryz.zeroValue216
 t35:=Tryz.underlying229
 a35:=Tryz.isAgg229
 z35:=Tryz.sizeOf229
 v35:=Tryz.zeroValue229
 t36:=Tryz.underlying230
 a36:=Tryz.isAgg230
 z36:=Tryz.sizeOf230
 v36:=Tryz.zeroValue230
 t41:=Tryz.underlying158
 a41:=Tryz.isAgg158
 z41:=Tryz.sizeOf158
 v41:=Tryz.zeroValue158
 t44:=Tryz.underlying236
 a44:=Tryz.isAgg236
 z44:=Tryz.sizeOf236
 v44:=Tryz.zeroValue236
 t46:=Tryz.underlying238
 a46:=Tryz.isAgg238
 z46:=Tryz.sizeOf238
 v46:=Tryz.zeroValue238
 t53:=Tryz.underlying247
 a53:=Tryz.isAgg247
 z53:=Tryz.sizeOf247
 v53:=Tryz.zeroValue247
 t57:=Tryz.underlying251
 a57:=Tryz.isAgg251
 z57:=Tryz.sizeOf251
 v57:=Tryz.zeroValue251
 t63:=Tryz.underlying254
 a63:=Tryz.isAgg254
 z63:=Tryz.sizeOf254
 v63:=Tryz.zeroValue254
 t64:=Tryz.underlying255
 a64:=Tryz.isAgg255
 z64:=Tryz.sizeOf255
 v64:=Tryz.zeroValue255
def Hm:Go.Shelf.Ren:=⟨fun | 6=>149 | 8=>182 | 9=>159 | 11=>201 | 13=>193 | 12=>192 | 23=>215 | 24=>216 | 14=>206 | 15=>207 | 16=>208 | 17=>209 | 18=>210 | 19=>211 | 20=>212 | 21=>213 | 22=>214 | 25=>219 | 26=>220 | 27=>221 | 28=>222 | 29=>223 | 30=>224 | 31=>229 | n=>n,fun | 26=>3 | 28=>177 | 24=>46 | 0=>0 | 3=>3 | 37=>216 | 48=>236 | 50=>238 | 4=>4 | 40=>230 | 39=>229 | 45=>158 | 5=>5 | 9=>9 | 51=>247 | 55=>251 | 57=>254 | 58=>255 | 33=>114 | n=>n,fun | n=>n⟩
theorem Zy9:Go.Proofs.SlLaysZI.n6 Tryz.prog Hm where
 mixed:=by kernel_rfl
 f6 := ⟨ "slices.Sorted[int]", by decide, Tryz.func149.trans (congrArg some (by kernel_rfl))⟩
 f8 := ⟨ "slices.Collect[int]", by decide, Tryz.func182.trans (congrArg some (by kernel_rfl))⟩
 f11 := ⟨ "slices.AppendSeq[[]int,int]", by decide, Tryz.func201.trans (congrArg some (by kernel_rfl))⟩
 t0:=Tryz.underlying0
 a0:=Tryz.isAgg0
 z0:=Tryz.sizeOf0
 v0:=Tryz.zeroValue0
 t24:=Tryz.underlying46
 a24:=Tryz.isAgg46
 z24:=Tryz.sizeOf46
 v24:=Tryz.zeroValue46
 t26:=Tryz.underlying3
 a26:=Tryz.isAgg3
 z26:=Tryz.sizeOf3
 v26:=Tryz.zeroValue3
 t28:=Tryz.underlying177
 a28:=Tryz.isAgg177
 z28:=Tryz.sizeOf177
 v28:=Tryz.zeroValue177
 i26:=by kernel_rfl
def Ck:Go.Shelf.Ren:=⟨fun | 7=>150 | 10=>183 | n=>n,fun | 23=>174 | 26=>3 | 3=>4 | 28=>177 | 0=>0 | 27=>176 | 33=>114 | 4=>4 | n=>n,fun | n=>n⟩
theorem keysA:Go.Proofs.SlLaysZI.n7 Tryz.prog Ck where
 mixed:=by kernel_rfl
 f7 := ⟨ "maps.Keys[map[int]bool,int,bool]", by decide, Tryz.func150.trans (congrArg some (by kernel_rfl))⟩
 f10 := ⟨ "maps.Keys[map[int]bool,int,bool]$1", by decide, Tryz.func183.trans (congrArg some (by kernel_rfl))⟩
 t0:=Tryz.underlying0
 a0:=Tryz.isAgg0
 z0:=Tryz.sizeOf0
 v0:=Tryz.zeroValue0
 t4:=Tryz.underlying4
 a4:=Tryz.isAgg4
 z4:=Tryz.sizeOf4
 v4:=Tryz.zeroValue4
 t23:=Tryz.underlying174
 a23:=Tryz.isAgg174
 z23:=Tryz.sizeOf174
 v23:=Tryz.zeroValue174
 t26:=Tryz.underlying3
 a26:=Tryz.isAgg3
 z26:=Tryz.sizeOf3
 v26:=Tryz.zeroValue3
 t27:=Tryz.underlying176
 a27:=Tryz.isAgg176
 z27:=Tryz.sizeOf176
 v27:=Tryz.zeroValue176
 t28:=Tryz.underlying177
 a28:=Tryz.isAgg177
 z28:=Tryz.sizeOf177
 v28:=Tryz.zeroValue177
 t33:=Tryz.underlying114
 a33:=Tryz.isAgg114
 z33:=Tryz.sizeOf114
 v33:=Tryz.zeroValue114
theorem Z5u:Z04 Tryz.prog 159 where
 ent:=enters_of Tryz.func159 (by kernel_rfl) rfl
 run:=fun blk off cap zs w h1 h2 h3=>AnyM.slices_Sort_int sortA blk off cap zs w h1 h2 h3
 nil:=fun p cap w=>AnyM.slices_Sort_int_none sortA p cap w
theorem Zza (m:Nat):AnyZI.SortsIn Tryz.prog Hm Fence.wide m :=
 ⟨fun blk off cap ss W hH hblk hsz=>callsIn_wide.2 (AnyM.slices_Sort_int sortA blk off cap ss W hH hblk hsz),fun p cap W=>callsIn_wide.2 (AnyM.slices_Sort_int_none sortA p cap W)⟩
theorem Z5v:Z05 Tryz.prog 149 183 3 where
 ent:=enters_of Tryz.func149 (by kernel_rfl) rfl
 ku:=Tryz.underlying3
 run:=fun Bm b nn D0 R w hcell hlt hown hmax hbytes=>by
  have hseq:SeqGives Fence.wide 2 Tryz.prog 183 #[.pointer (some ⟨Bm,0,none⟩)] encZ (fun ss=>ss.Perm (intKeys D0)) (Maps.size D0) w :=
   AnyZI.keys_gives (ρ:=Ck) { keysA with } Fence.wide _ trivial rfl (by omega) Bm b nn D0 w hlt hcell hown
  have cS:=AnyZI.sorted_in Zy9 Fence.wide 5 trivial trivial trivial trivial rfl (by omega) (Zza _) (enters_of Tryz.func159 (by kernel_rfl) rfl) 183 #[.pointer (some ⟨Bm,0,none⟩)] trivial (enters_of Tryz.func183 (by kernel_rfl) rfl) _ _ hmax hbytes w hseq
  exact Calls.mono (callsIn_wide.1 cS) fun e w' ⟨v,ss,h1,h2,h3,h4,h5⟩=>⟨v,ss,h1,h2,⟨_,h3⟩,h4,h5⟩
end Go.Proofs.YtndfdnlbljhlgaaGreat
