/- The library's sorts of whole numbers at this seat's numbers. No conditions. -/
import Derived.Test.YtenndgooepdmiaaGreatDoorAMJ4
import Derived.KernelRfl
import Derived.Test.YtenndgooepdmiaaGreatDoorProg
import Derived.Shelf.SortM.Plain
import Derived.Shelf.SortM.SortNone
set_option maxRecDepth 20000
namespace Go.Proofs.YtenndgooepdmiaaGreatDoor
open Go Go.AM Go.Proofs Go.RowKit Go.Maps Go.Sort Go.Shelf
def sortA_ren : Go.Shelf.Ren := ⟨fun | 5 => 44 | 8 => 64 | 7 => 63 | 19 => 88 | 20 => 89 | 10 => 79 | 11 => 80 | 12 => 81 | 13 => 82 | 14 => 83 | 15 => 84 | 16 => 85 | 17 => 86 | 18 => 87 | 30 => 94 | 31 => 95 | 32 => 96 | 33 => 97 | 34 => 98 | 35 => 99 | 40 => 100 | n => n, fun | 23 => 31 | 25 => 3 | 3 => 3 | 32 => 112 | 22 => 31 | 0 => 0 | 44 => 134 | 46 => 101 | 4 => 4 | 36 => 126 | 35 => 125 | 41 => 131 | 5 => 5 | 9 => 9 | 53 => 152 | 57 => 156 | 63 => 158 | 64 => 159 | n => n, fun | n => n⟩
theorem sortA : Go.Proofs.SlLaysM.n5 Tryz.prog sortA_ren where
  mixed := by kernel_rfl
  f5 := ⟨ "slices.Sort[[]int,int]", by decide, Tryz.func44.trans (congrArg some (by kernel_rfl))⟩
  f7 := ⟨ "slices.pdqsortOrdered[int]", by decide, Tryz.func63.trans (congrArg some (by kernel_rfl))⟩
  f8 := Tryz.func64.trans (congrArg some (by kernel_rfl))
  f10 := ⟨ "slices.insertionSortOrdered[int]", by decide, Tryz.func79.trans (congrArg some (by kernel_rfl))⟩
  f11 := ⟨ "slices.heapSortOrdered[int]", by decide, Tryz.func80.trans (congrArg some (by kernel_rfl))⟩
  f12 := ⟨ "slices.breakPatternsOrdered[int]", by decide, Tryz.func81.trans (congrArg some (by kernel_rfl))⟩
  f13 := ⟨ "slices.choosePivotOrdered[int]", by decide, Tryz.func82.trans (congrArg some (by kernel_rfl))⟩
  f14 := ⟨ "slices.reverseRangeOrdered[int]", by decide, Tryz.func83.trans (congrArg some (by kernel_rfl))⟩
  f15 := ⟨ "slices.partialInsertionSortOrdered[int]", by decide, Tryz.func84.trans (congrArg some (by kernel_rfl))⟩
  f16 := ⟨ "cmp.Less[int]", by decide, Tryz.func85.trans (congrArg some (by kernel_rfl))⟩
  f17 := ⟨ "slices.partitionEqualOrdered[int]", by decide, Tryz.func86.trans (congrArg some (by kernel_rfl))⟩
  f18 := ⟨ "slices.partitionOrdered[int]", by decide, Tryz.func87.trans (congrArg some (by kernel_rfl))⟩
  f19 := Tryz.func88.trans (congrArg some (by kernel_rfl))
  f20 := Tryz.func89.trans (congrArg some (by kernel_rfl))
  f30 := ⟨ "slices.siftDownOrdered[int]", by decide, Tryz.func94.trans (congrArg some (by kernel_rfl))⟩
  f31 := Tryz.func95.trans (congrArg some (by kernel_rfl))
  f32 := Tryz.func96.trans (congrArg some (by kernel_rfl))
  f33 := ⟨ "slices.medianAdjacentOrdered[int]", by decide, Tryz.func97.trans (congrArg some (by kernel_rfl))⟩
  f34 := ⟨ "slices.medianOrdered[int]", by decide, Tryz.func98.trans (congrArg some (by kernel_rfl))⟩
  f35 := ⟨ "cmp.isNaN[int]", by decide, Tryz.func99.trans (congrArg some (by kernel_rfl))⟩
  f40 := ⟨ "slices.order2Ordered[int]", by decide, Tryz.func100.trans (congrArg some (by kernel_rfl))⟩
  t0 := Tryz.underlying0
  a0 := Tryz.isAgg0
  z0 := Tryz.sizeOf0
  v0 := Tryz.zeroValue0
  t3 := Tryz.underlying3
  a3 := Tryz.isAgg3
  z3 := Tryz.sizeOf3
  v3 := Tryz.zeroValue3
  t4 := Tryz.underlying4
  a4 := Tryz.isAgg4
  z4 := Tryz.sizeOf4
  v4 := Tryz.zeroValue4
  t5 := Tryz.underlying5
  a5 := Tryz.isAgg5
  z5 := Tryz.sizeOf5
  v5 := Tryz.zeroValue5
  t9 := Tryz.underlying9
  a9 := Tryz.isAgg9
  z9 := Tryz.sizeOf9
  v9 := Tryz.zeroValue9
  t22 := Tryz.underlying31
  a22 := Tryz.isAgg31
  z22 := Tryz.sizeOf31
  v22 := Tryz.zeroValue31
  t23 := Tryz.underlying31
  a23 := Tryz.isAgg31
  z23 := Tryz.sizeOf31
  v23 := Tryz.zeroValue31
  t25 := Tryz.underlying3
  a25 := Tryz.isAgg3
  z25 := Tryz.sizeOf3
  v25 := Tryz.zeroValue3
  t32 := Tryz.underlying112
  a32 := Tryz.isAgg112
  z32 := Tryz.sizeOf112
  v32 := Tryz.zeroValue112
  t35 := Tryz.underlying125
  a35 := Tryz.isAgg125
  z35 := Tryz.sizeOf125
  v35 := Tryz.zeroValue125
  t36 := Tryz.underlying126
  a36 := Tryz.isAgg126
  z36 := Tryz.sizeOf126
  v36 := Tryz.zeroValue126
  t41 := Tryz.underlying131
  a41 := Tryz.isAgg131
  z41 := Tryz.sizeOf131
  v41 := Tryz.zeroValue131
  t44 := Tryz.underlying134
  a44 := Tryz.isAgg134
  z44 := Tryz.sizeOf134
  v44 := Tryz.zeroValue134
  t46 := Tryz.underlying101
  a46 := Tryz.isAgg101
  z46 := Tryz.sizeOf101
  v46 := Tryz.zeroValue101
  t53 := Tryz.underlying152
  a53 := Tryz.isAgg152
  z53 := Tryz.sizeOf152
  v53 := Tryz.zeroValue152
  t57 := Tryz.underlying156
  a57 := Tryz.isAgg156
  z57 := Tryz.sizeOf156
  v57 := Tryz.zeroValue156
  t63 := Tryz.underlying158
  a63 := Tryz.isAgg158
  z63 := Tryz.sizeOf158
  v63 := Tryz.zeroValue158
  t64 := Tryz.underlying159
  a64 := Tryz.isAgg159
  z64 := Tryz.sizeOf159
  v64 := Tryz.zeroValue159
theorem sortC : SortC Tryz.prog 44 where
  ent := enters_of Tryz.func44 (by kernel_rfl) rfl
  run := fun blk off cap zs w h1 h2 h3 => AnyM.slices_Sort_int sortA blk off cap zs w h1 h2 h3
  nil := fun p cap w => AnyM.slices_Sort_int_none sortA p cap w
end Go.Proofs.YtenndgooepdmiaaGreatDoor
