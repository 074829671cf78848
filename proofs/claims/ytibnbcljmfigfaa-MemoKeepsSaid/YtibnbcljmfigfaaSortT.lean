/- The library's sorts of whole numbers at this seat's numbers. No conditions. -/
import Derived.Test.YtibnbcljmfigfaaAMJ4
import Derived.KernelRfl
import Derived.Test.YtibnbcljmfigfaaProg
import Derived.Shelf.SortM.Plain
import Derived.Shelf.SortM.SortNone
import Derived.Shelf.SlIterI.Sorted
import Derived.Shelf.SlIterI.Keys
set_option maxRecDepth 20000
namespace Go.Proofs.Ytibnbcljmfigfaa
open Go Go.AM Go.Proofs Go.RowKit Go.Maps Go.Sort Go.Shelf
def sortA_ren : Go.Shelf.Ren := ⟨fun | 5 => 71 | 8 => 94 | 7 => 93 | 19 => 115 | 20 => 116 | 10 => 106 | 11 => 107 | 12 => 108 | 13 => 109 | 14 => 110 | 15 => 111 | 16 => 112 | 17 => 113 | 18 => 114 | 30 => 121 | 31 => 122 | 32 => 123 | 33 => 124 | 34 => 125 | 35 => 126 | 40 => 127 | n => n, fun | 23 => 75 | 25 => 3 | 3 => 3 | 32 => 144 | 22 => 75 | 0 => 0 | 44 => 163 | 46 => 165 | 4 => 4 | 36 => 156 | 35 => 155 | 41 => 115 | 5 => 5 | 9 => 9 | 53 => 170 | 57 => 174 | 63 => 176 | 64 => 177 | n => n, fun | n => n⟩
theorem sortA : Go.Proofs.SlLaysM.n5 Try.prog sortA_ren where
  mixed := by kernel_rfl
  f5 := ⟨ "slices.Sort[[]int,int]", by decide, Try.func71.trans (congrArg some (by kernel_rfl))⟩
  f7 := ⟨ "slices.pdqsortOrdered[int]", by decide, Try.func93.trans (congrArg some (by kernel_rfl))⟩
  f8 := Try.func94.trans (congrArg some (by kernel_rfl))
  f10 := ⟨ "slices.insertionSortOrdered[int]", by decide, Try.func106.trans (congrArg some (by kernel_rfl))⟩
  f11 := ⟨ "slices.heapSortOrdered[int]", by decide, Try.func107.trans (congrArg some (by kernel_rfl))⟩
  f12 := ⟨ "slices.breakPatternsOrdered[int]", by decide, Try.func108.trans (congrArg some (by kernel_rfl))⟩
  f13 := ⟨ "slices.choosePivotOrdered[int]", by decide, Try.func109.trans (congrArg some (by kernel_rfl))⟩
  f14 := ⟨ "slices.reverseRangeOrdered[int]", by decide, Try.func110.trans (congrArg some (by kernel_rfl))⟩
  f15 := ⟨ "slices.partialInsertionSortOrdered[int]", by decide, Try.func111.trans (congrArg some (by kernel_rfl))⟩
  f16 := ⟨ "cmp.Less[int]", by decide, Try.func112.trans (congrArg some (by kernel_rfl))⟩
  f17 := ⟨ "slices.partitionEqualOrdered[int]", by decide, Try.func113.trans (congrArg some (by kernel_rfl))⟩
  f18 := ⟨ "slices.partitionOrdered[int]", by decide, Try.func114.trans (congrArg some (by kernel_rfl))⟩
  f19 := Try.func115.trans (congrArg some (by kernel_rfl))
  f20 := Try.func116.trans (congrArg some (by kernel_rfl))
  f30 := ⟨ "slices.siftDownOrdered[int]", by decide, Try.func121.trans (congrArg some (by kernel_rfl))⟩
  f31 := Try.func122.trans (congrArg some (by kernel_rfl))
  f32 := Try.func123.trans (congrArg some (by kernel_rfl))
  f33 := ⟨ "slices.medianAdjacentOrdered[int]", by decide, Try.func124.trans (congrArg some (by kernel_rfl))⟩
  f34 := ⟨ "slices.medianOrdered[int]", by decide, Try.func125.trans (congrArg some (by kernel_rfl))⟩
  f35 := ⟨ "cmp.isNaN[int]", by decide, Try.func126.trans (congrArg some (by kernel_rfl))⟩
  f40 := ⟨ "slices.order2Ordered[int]", by decide, Try.func127.trans (congrArg some (by kernel_rfl))⟩
  t0 := Try.underlying0
  a0 := Try.isAgg0
  z0 := Try.sizeOf0
  v0 := Try.zeroValue0
  t3 := Try.underlying3
  a3 := Try.isAgg3
  z3 := Try.sizeOf3
  v3 := Try.zeroValue3
  t4 := Try.underlying4
  a4 := Try.isAgg4
  z4 := Try.sizeOf4
  v4 := Try.zeroValue4
  t5 := Try.underlying5
  a5 := Try.isAgg5
  z5 := Try.sizeOf5
  v5 := Try.zeroValue5
  t9 := Try.underlying9
  a9 := Try.isAgg9
  z9 := Try.sizeOf9
  v9 := Try.zeroValue9
  t22 := Try.underlying75
  a22 := Try.isAgg75
  z22 := Try.sizeOf75
  v22 := Try.zeroValue75
  t23 := Try.underlying75
  a23 := Try.isAgg75
  z23 := Try.sizeOf75
  v23 := Try.zeroValue75
  t25 := Try.underlying3
  a25 := Try.isAgg3
  z25 := Try.sizeOf3
  v25 := Try.zeroValue3
  t32 := Try.underlying144
  a32 := Try.isAgg144
  z32 := Try.sizeOf144
  v32 := Try.zeroValue144
  t35 := Try.underlying155
  a35 := Try.isAgg155
  z35 := Try.sizeOf155
  v35 := Try.zeroValue155
  t36 := Try.underlying156
  a36 := Try.isAgg156
  z36 := Try.sizeOf156
  v36 := Try.zeroValue156
  t41 := Try.underlying115
  a41 := Try.isAgg115
  z41 := Try.sizeOf115
  v41 := Try.zeroValue115
  t44 := Try.underlying163
  a44 := Try.isAgg163
  z44 := Try.sizeOf163
  v44 := Try.zeroValue163
  t46 := Try.underlying165
  a46 := Try.isAgg165
  z46 := Try.sizeOf165
  v46 := Try.zeroValue165
  t53 := Try.underlying170
  a53 := Try.isAgg170
  z53 := Try.sizeOf170
  v53 := Try.zeroValue170
  t57 := Try.underlying174
  a57 := Try.isAgg174
  z57 := Try.sizeOf174
  v57 := Try.zeroValue174
  t63 := Try.underlying176
  a63 := Try.isAgg176
  z63 := Try.sizeOf176
  v63 := Try.zeroValue176
  t64 := Try.underlying177
  a64 := Try.isAgg177
  z64 := Try.sizeOf177
  v64 := Try.zeroValue177
def sortedA_ren : Go.Shelf.Ren := ⟨fun | 6 => 72 | 8 => 95 | 9 => 71 | 11 => 117 | 13 => 94 | 12 => 93 | 23 => 115 | 24 => 116 | 14 => 106 | 15 => 107 | 16 => 108 | 17 => 109 | 18 => 110 | 19 => 111 | 20 => 112 | 21 => 113 | 22 => 114 | 25 => 121 | 26 => 122 | 27 => 123 | 28 => 124 | 29 => 125 | 30 => 126 | 31 => 127 | n => n, fun | 26 => 3 | 28 => 120 | 24 => 75 | 0 => 0 | 3 => 3 | 37 => 144 | 48 => 163 | 50 => 165 | 4 => 4 | 40 => 156 | 39 => 155 | 45 => 115 | 5 => 5 | 9 => 9 | 51 => 170 | 55 => 174 | 57 => 176 | 58 => 177 | 33 => 145 | n => n, fun | n => n⟩
theorem sortedA : Go.Proofs.SlLaysZI.n6 Try.prog sortedA_ren where
  mixed := by kernel_rfl
  f6 := ⟨ "slices.Sorted[int]", by decide, Try.func72.trans (congrArg some (by kernel_rfl))⟩
  f8 := ⟨ "slices.Collect[int]", by decide, Try.func95.trans (congrArg some (by kernel_rfl))⟩
  f11 := ⟨ "slices.AppendSeq[[]int,int]", by decide, Try.func117.trans (congrArg some (by kernel_rfl))⟩
  t0 := Try.underlying0
  a0 := Try.isAgg0
  z0 := Try.sizeOf0
  v0 := Try.zeroValue0
  t24 := Try.underlying75
  a24 := Try.isAgg75
  z24 := Try.sizeOf75
  v24 := Try.zeroValue75
  t26 := Try.underlying3
  a26 := Try.isAgg3
  z26 := Try.sizeOf3
  v26 := Try.zeroValue3
  t28 := Try.underlying120
  a28 := Try.isAgg120
  z28 := Try.sizeOf120
  v28 := Try.zeroValue120
  i26 := by kernel_rfl
def keysA_ren : Go.Shelf.Ren := ⟨fun | 7 => 73 | 10 => 96 | n => n, fun | 23 => 117 | 26 => 3 | 3 => 4 | 28 => 120 | 0 => 0 | 27 => 119 | 33 => 145 | 4 => 4 | n => n, fun | n => n⟩
theorem keysA : Go.Proofs.SlLaysZI.n7 Try.prog keysA_ren where
  mixed := by kernel_rfl
  f7 := ⟨ "maps.Keys[map[int]bool,int,bool]", by decide, Try.func73.trans (congrArg some (by kernel_rfl))⟩
  f10 := ⟨ "maps.Keys[map[int]bool,int,bool]$1", by decide, Try.func96.trans (congrArg some (by kernel_rfl))⟩
  t0 := Try.underlying0
  a0 := Try.isAgg0
  z0 := Try.sizeOf0
  v0 := Try.zeroValue0
  t4 := Try.underlying4
  a4 := Try.isAgg4
  z4 := Try.sizeOf4
  v4 := Try.zeroValue4
  t23 := Try.underlying117
  a23 := Try.isAgg117
  z23 := Try.sizeOf117
  v23 := Try.zeroValue117
  t26 := Try.underlying3
  a26 := Try.isAgg3
  z26 := Try.sizeOf3
  v26 := Try.zeroValue3
  t27 := Try.underlying119
  a27 := Try.isAgg119
  z27 := Try.sizeOf119
  v27 := Try.zeroValue119
  t28 := Try.underlying120
  a28 := Try.isAgg120
  z28 := Try.sizeOf120
  v28 := Try.zeroValue120
  t33 := Try.underlying145
  a33 := Try.isAgg145
  z33 := Try.sizeOf145
  v33 := Try.zeroValue145
theorem sortC : SortC Try.prog 71 where
  ent := enters_of Try.func71 (by kernel_rfl) rfl
  run := fun blk off cap zs w h1 h2 h3 => AnyM.slices_Sort_int sortA blk off cap zs w h1 h2 h3
  nil := fun p cap w => AnyM.slices_Sort_int_none sortA p cap w
theorem sortsIn (m : Nat) : AnyZI.SortsIn Try.prog sortedA_ren Fence.wide m :=
  ⟨fun blk off cap ss W hH hblk hsz => callsIn_wide.2 (AnyM.slices_Sort_int sortA blk off cap ss W hH hblk hsz), fun p cap W => callsIn_wide.2 (AnyM.slices_Sort_int_none sortA p cap W)⟩
theorem keysC : KeysC Try.prog 72 96 3 where
  ent := enters_of Try.func72 (by kernel_rfl) rfl
  ku := Try.underlying3
  run := fun Bm b nn D0 R w hcell hlt hown hmax hbytes => by
    have hseq : SeqGives Fence.wide 2 Try.prog 96 #[.pointer (some ⟨Bm, 0, none⟩)] encZ (fun ss => ss.Perm (intKeys D0)) (Maps.size D0) w :=
      AnyZI.keys_gives (ρ := keysA_ren) { keysA with } Fence.wide _ trivial rfl (by omega) Bm b nn D0 w hlt hcell hown
    have cS := AnyZI.sorted_in sortedA Fence.wide 5 trivial trivial trivial trivial rfl (by omega) (sortsIn _) (enters_of Try.func71 (by kernel_rfl) rfl) 96 #[.pointer (some ⟨Bm, 0, none⟩)] trivial (enters_of Try.func96 (by kernel_rfl) rfl) _ _ hmax hbytes w hseq
    exact Calls.mono (callsIn_wide.1 cS) fun e w' ⟨v, ss, h1, h2, h3, h4, h5⟩ => ⟨v, ss, h1, h2, ⟨_, h3⟩, h4, h5⟩
end Go.Proofs.Ytibnbcljmfigfaa
