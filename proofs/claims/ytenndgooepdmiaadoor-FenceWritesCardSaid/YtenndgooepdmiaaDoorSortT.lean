/- The library's sorts of whole numbers at this seat's numbers. No conditions. -/
import Derived.Test.YtenndgooepdmiaaDoorAMJ4
import Derived.KernelRfl
import Derived.Test.YtenndgooepdmiaaDoorProg
import Derived.Shelf.SortM.Plain
import Derived.Shelf.SortM.SortNone
set_option maxRecDepth 20000
namespace Go.Proofs.YtenndgooepdmiaaDoor
open Go Go.AM Go.Proofs Go.RowKit Go.Maps Go.Sort Go.Shelf
def sortA_ren : Go.Shelf.Ren := ⟨fun | 5 => 35 | 8 => 57 | 7 => 56 | 19 => 75 | 20 => 76 | 10 => 66 | 11 => 67 | 12 => 68 | 13 => 69 | 14 => 70 | 15 => 71 | 16 => 72 | 17 => 73 | 18 => 74 | 30 => 81 | 31 => 82 | 32 => 83 | 33 => 84 | 34 => 85 | 35 => 86 | 40 => 87 | n => n, fun | 23 => 35 | 25 => 3 | 3 => 3 | 32 => 113 | 22 => 35 | 0 => 0 | 44 => 141 | 46 => 94 | 4 => 4 | 36 => 133 | 35 => 132 | 41 => 138 | 5 => 5 | 9 => 9 | 53 => 148 | 57 => 152 | 63 => 154 | 64 => 155 | n => n, fun | n => n⟩
theorem sortA : Go.Proofs.SlLaysM.n5 Tryd.prog sortA_ren where
  mixed := by kernel_rfl
  f5 := ⟨ "slices.Sort[[]int,int]", by decide, Tryd.func35.trans (congrArg some (by kernel_rfl))⟩
  f7 := ⟨ "slices.pdqsortOrdered[int]", by decide, Tryd.func56.trans (congrArg some (by kernel_rfl))⟩
  f8 := Tryd.func57.trans (congrArg some (by kernel_rfl))
  f10 := ⟨ "slices.insertionSortOrdered[int]", by decide, Tryd.func66.trans (congrArg some (by kernel_rfl))⟩
  f11 := ⟨ "slices.heapSortOrdered[int]", by decide, Tryd.func67.trans (congrArg some (by kernel_rfl))⟩
  f12 := ⟨ "slices.breakPatternsOrdered[int]", by decide, Tryd.func68.trans (congrArg some (by kernel_rfl))⟩
  f13 := ⟨ "slices.choosePivotOrdered[int]", by decide, Tryd.func69.trans (congrArg some (by kernel_rfl))⟩
  f14 := ⟨ "slices.reverseRangeOrdered[int]", by decide, Tryd.func70.trans (congrArg some (by kernel_rfl))⟩
  f15 := ⟨ "slices.partialInsertionSortOrdered[int]", by decide, Tryd.func71.trans (congrArg some (by kernel_rfl))⟩
  f16 := ⟨ "cmp.Less[int]", by decide, Tryd.func72.trans (congrArg some (by kernel_rfl))⟩
  f17 := ⟨ "slices.partitionEqualOrdered[int]", by decide, Tryd.func73.trans (congrArg some (by kernel_rfl))⟩
  f18 := ⟨ "slices.partitionOrdered[int]", by decide, Tryd.func74.trans (congrArg some (by kernel_rfl))⟩
  f19 := Tryd.func75.trans (congrArg some (by kernel_rfl))
  f20 := Tryd.func76.trans (congrArg some (by kernel_rfl))
  f30 := ⟨ "slices.siftDownOrdered[int]", by decide, Tryd.func81.trans (congrArg some (by kernel_rfl))⟩
  f31 := Tryd.func82.trans (congrArg some (by kernel_rfl))
  f32 := Tryd.func83.trans (congrArg some (by kernel_rfl))
  f33 := ⟨ "slices.medianAdjacentOrdered[int]", by decide, Tryd.func84.trans (congrArg some (by kernel_rfl))⟩
  f34 := ⟨ "slices.medianOrdered[int]", by decide, Tryd.func85.trans (congrArg some (by kernel_rfl))⟩
  f35 := ⟨ "cmp.isNaN[int]", by decide, Tryd.func86.trans (congrArg some (by kernel_rfl))⟩
  f40 := ⟨ "slices.order2Ordered[int]", by decide, Tryd.func87.trans (congrArg some (by kernel_rfl))⟩
  t0 := Tryd.underlying0
  a0 := Tryd.isAgg0
  z0 := Tryd.sizeOf0
  v0 := Tryd.zeroValue0
  t3 := Tryd.underlying3
  a3 := Tryd.isAgg3
  z3 := Tryd.sizeOf3
  v3 := Tryd.zeroValue3
  t4 := Tryd.underlying4
  a4 := Tryd.isAgg4
  z4 := Tryd.sizeOf4
  v4 := Tryd.zeroValue4
  t5 := Tryd.underlying5
  a5 := Tryd.isAgg5
  z5 := Tryd.sizeOf5
  v5 := Tryd.zeroValue5
  t9 := Tryd.underlying9
  a9 := Tryd.isAgg9
  z9 := Tryd.sizeOf9
  v9 := Tryd.zeroValue9
  t22 := Tryd.underlying35
  a22 := Tryd.isAgg35
  z22 := Tryd.sizeOf35
  v22 := Tryd.zeroValue35
  t23 := Tryd.underlying35
  a23 := Tryd.isAgg35
  z23 := Tryd.sizeOf35
  v23 := Tryd.zeroValue35
  t25 := Tryd.underlying3
  a25 := Tryd.isAgg3
  z25 := Tryd.sizeOf3
  v25 := Tryd.zeroValue3
  t32 := Tryd.underlying113
  a32 := Tryd.isAgg113
  z32 := Tryd.sizeOf113
  v32 := Tryd.zeroValue113
  t35 := Tryd.underlying132
  a35 := Tryd.isAgg132
  z35 := Tryd.sizeOf132
  v35 := Tryd.zeroValue132
  t36 := Tryd.underlying133
  a36 := Tryd.isAgg133
  z36 := Tryd.sizeOf133
  v36 := Tryd.zeroValue133
  t41 := Tryd.underlying138
  a41 := Tryd.isAgg138
  z41 := Tryd.sizeOf138
  v41 := Tryd.zeroValue138
  t44 := Tryd.underlying141
  a44 := Tryd.isAgg141
  z44 := Tryd.sizeOf141
  v44 := Tryd.zeroValue141
  t46 := Tryd.underlying94
  a46 := Tryd.isAgg94
  z46 := Tryd.sizeOf94
  v46 := Tryd.zeroValue94
  t53 := Tryd.underlying148
  a53 := Tryd.isAgg148
  z53 := Tryd.sizeOf148
  v53 := Tryd.zeroValue148
  t57 := Tryd.underlying152
  a57 := Tryd.isAgg152
  z57 := Tryd.sizeOf152
  v57 := Tryd.zeroValue152
  t63 := Tryd.underlying154
  a63 := Tryd.isAgg154
  z63 := Tryd.sizeOf154
  v63 := Tryd.zeroValue154
  t64 := Tryd.underlying155
  a64 := Tryd.isAgg155
  z64 := Tryd.sizeOf155
  v64 := Tryd.zeroValue155
theorem sortC : SortC Tryd.prog 35 where
  ent := enters_of Tryd.func35 (by kernel_rfl) rfl
  run := fun blk off cap zs w h1 h2 h3 => AnyM.slices_Sort_int sortA blk off cap zs w h1 h2 h3
  nil := fun p cap w => AnyM.slices_Sort_int_none sortA p cap w
end Go.Proofs.YtenndgooepdmiaaDoor
