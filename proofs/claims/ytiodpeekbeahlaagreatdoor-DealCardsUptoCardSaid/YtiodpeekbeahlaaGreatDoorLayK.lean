/- The library's premises at this seat's program: which function, type and variable of the library has which number here. -/
import Derived.Test.YtiodpeekbeahlaaGreatDoorProg
import Derived.Shelf.SlIterI.Nil
import Derived.Shelf.SortM.Plain
import Derived.Shelf.SortM.SortNone
import Derived.KernelRfl
namespace Go.Proofs.YtiodpeekbeahlaaGreatDoor
open Go Go.Proofs Go.Shelf
set_option maxRecDepth 1000000

def keysA_ren : Go.Shelf.Ren :=
{
  f := fun x =>
    match x with
    | 7 => 82
    | 10 => 135
    | n => n,
  t := fun x =>
    match x with
    | 23 => 124
    | 26 => 3
    | 3 => 9
    | 28 => 130
    | 0 => 0
    | 27 => 129
    | 33 => 127
    | 4 => 4
    | n => n,
  g := fun x =>
    have n := x;
    n }

theorem keysA : SlLaysZI.n7 Tryz.prog keysA_ren where
  mixed := by kernel_rfl
  f7 := ⟨ "maps.Keys[map[int]string,int,string]", of_decide_eq_true (by kernel_rfl), Tryz.func82.trans (congrArg some (by kernel_rfl))⟩
  f10 := ⟨ "maps.Keys[map[int]string,int,string]$1", of_decide_eq_true (by kernel_rfl), Tryz.func135.trans (congrArg some (by kernel_rfl))⟩
  t0 := Tryz.underlying0
  a0 := Tryz.isAgg0
  z0 := Tryz.sizeOf0
  v0 := Tryz.zeroValue0
  t4 := Tryz.underlying4
  a4 := Tryz.isAgg4
  z4 := Tryz.sizeOf4
  v4 := Tryz.zeroValue4
  t23 := Tryz.underlying124
  a23 := Tryz.isAgg124
  z23 := Tryz.sizeOf124
  v23 := Tryz.zeroValue124
  t26 := Tryz.underlying3
  a26 := Tryz.isAgg3
  z26 := Tryz.sizeOf3
  v26 := Tryz.zeroValue3
  t27 := Tryz.underlying129
  a27 := Tryz.isAgg129
  z27 := Tryz.sizeOf129
  v27 := Tryz.zeroValue129
  t28 := Tryz.underlying130
  a28 := Tryz.isAgg130
  z28 := Tryz.sizeOf130
  v28 := Tryz.zeroValue130
  t33 := Tryz.underlying127
  a33 := Tryz.isAgg127
  z33 := Tryz.sizeOf127
  v33 := Tryz.zeroValue127

def sortedA_ren : Go.Shelf.Ren :=
{
  f := fun x =>
    match x with
    | 6 => 81
    | 8 => 133
    | 9 => 134
    | 11 => 175
    | 13 => 177
    | 12 => 176
    | 23 => 211
    | 24 => 212
    | 14 => 202
    | 15 => 203
    | 16 => 204
    | 17 => 205
    | 18 => 206
    | 19 => 207
    | 20 => 208
    | 21 => 209
    | 22 => 210
    | 25 => 228
    | 26 => 229
    | 27 => 230
    | 28 => 231
    | 29 => 232
    | 30 => 233
    | 31 => 240
    | n => n,
  t := fun x =>
    match x with
    | 26 => 3
    | 28 => 130
    | 24 => 22
    | 0 => 0
    | 3 => 3
    | 37 => 39
    | 48 => 222
    | 50 => 225
    | 4 => 4
    | 40 => 234
    | 39 => 233
    | 45 => 175
    | 5 => 5
    | 9 => 9
    | 51 => 251
    | 55 => 255
    | 57 => 267
    | 58 => 137
    | 33 => 127
    | n => n,
  g := fun x =>
    have n := x;
    n }

theorem sortedA : SlLaysZI.n6 Tryz.prog sortedA_ren where
  mixed := by kernel_rfl
  f6 := ⟨ "slices.Sorted[int]", of_decide_eq_true (by kernel_rfl), Tryz.func81.trans (congrArg some (by kernel_rfl))⟩
  f8 := ⟨ "slices.Collect[int]", of_decide_eq_true (by kernel_rfl), Tryz.func133.trans (congrArg some (by kernel_rfl))⟩
  f11 := ⟨ "slices.AppendSeq[[]int,int]", of_decide_eq_true (by kernel_rfl), Tryz.func175.trans (congrArg some (by kernel_rfl))⟩
  t0 := Tryz.underlying0
  a0 := Tryz.isAgg0
  z0 := Tryz.sizeOf0
  v0 := Tryz.zeroValue0
  t24 := Tryz.underlying22
  a24 := Tryz.isAgg22
  z24 := Tryz.sizeOf22
  v24 := Tryz.zeroValue22
  t26 := Tryz.underlying3
  a26 := Tryz.isAgg3
  z26 := Tryz.sizeOf3
  v26 := Tryz.zeroValue3
  t28 := Tryz.underlying130
  a28 := Tryz.isAgg130
  z28 := Tryz.sizeOf130
  v28 := Tryz.zeroValue130
  i26 := by kernel_rfl

def sortA_ren : Go.Shelf.Ren :=
{
  f := fun x =>
    match x with
    | 5 => 134
    | 8 => 177
    | 7 => 176
    | 19 => 211
    | 20 => 212
    | 10 => 202
    | 11 => 203
    | 12 => 204
    | 13 => 205
    | 14 => 206
    | 15 => 207
    | 16 => 208
    | 17 => 209
    | 18 => 210
    | 30 => 228
    | 31 => 229
    | 32 => 230
    | 33 => 231
    | 34 => 232
    | 35 => 233
    | 40 => 240
    | n => n,
  t := fun x =>
    match x with
    | 23 => 22
    | 25 => 3
    | 3 => 3
    | 32 => 39
    | 22 => 22
    | 0 => 0
    | 44 => 222
    | 46 => 225
    | 4 => 4
    | 36 => 234
    | 35 => 233
    | 41 => 175
    | 5 => 5
    | 9 => 9
    | 53 => 251
    | 57 => 255
    | 63 => 267
    | 64 => 137
    | n => n,
  g := fun x =>
    have n := x;
    n }

theorem sortA : SlLaysM.n5 Tryz.prog sortA_ren where
  mixed := by kernel_rfl
  f5 := ⟨ "slices.Sort[[]int,int]", of_decide_eq_true (by kernel_rfl), Tryz.func134.trans (congrArg some (by kernel_rfl))⟩
  f7 := ⟨ "slices.pdqsortOrdered[int]", of_decide_eq_true (by kernel_rfl), Tryz.func176.trans (congrArg some (by kernel_rfl))⟩
  f8 := Eq.trans Tryz.func177 (congrArg some (by kernel_rfl))
  f10 := ⟨ "slices.insertionSortOrdered[int]", of_decide_eq_true (by kernel_rfl), Tryz.func202.trans (congrArg some (by kernel_rfl))⟩
  f11 := ⟨ "slices.heapSortOrdered[int]", of_decide_eq_true (by kernel_rfl), Tryz.func203.trans (congrArg some (by kernel_rfl))⟩
  f12 := ⟨ "slices.breakPatternsOrdered[int]", of_decide_eq_true (by kernel_rfl), Tryz.func204.trans (congrArg some (by kernel_rfl))⟩
  f13 := ⟨ "slices.choosePivotOrdered[int]", of_decide_eq_true (by kernel_rfl), Tryz.func205.trans (congrArg some (by kernel_rfl))⟩
  f14 := ⟨ "slices.reverseRangeOrdered[int]", of_decide_eq_true (by kernel_rfl), Tryz.func206.trans (congrArg some (by kernel_rfl))⟩
  f15 := ⟨ "slices.partialInsertionSortOrdered[int]", of_decide_eq_true (by kernel_rfl), Tryz.func207.trans (congrArg some (by kernel_rfl))⟩
  f16 := ⟨ "cmp.Less[int]", of_decide_eq_true (by kernel_rfl), Tryz.func208.trans (congrArg some (by kernel_rfl))⟩
  f17 := ⟨ "slices.partitionEqualOrdered[int]", of_decide_eq_true (by kernel_rfl), Tryz.func209.trans (congrArg some (by kernel_rfl))⟩
  f18 := ⟨ "slices.partitionOrdered[int]", of_decide_eq_true (by kernel_rfl), Tryz.func210.trans (congrArg some (by kernel_rfl))⟩
  f19 := Eq.trans Tryz.func211 (congrArg some (by kernel_rfl))
  f20 := Eq.trans Tryz.func212 (congrArg some (by kernel_rfl))
  f30 := ⟨ "slices.siftDownOrdered[int]", of_decide_eq_true (by kernel_rfl), Tryz.func228.trans (congrArg some (by kernel_rfl))⟩
  f31 := Eq.trans Tryz.func229 (congrArg some (by kernel_rfl))
  f32 := Eq.trans Tryz.func230 (congrArg some (by kernel_rfl))
  f33 := ⟨ "slices.medianAdjacentOrdered[int]", of_decide_eq_true (by kernel_rfl), Tryz.func231.trans (congrArg some (by kernel_rfl))⟩
  f34 := ⟨ "slices.medianOrdered[int]", of_decide_eq_true (by kernel_rfl), Tryz.func232.trans (congrArg some (by kernel_rfl))⟩
  f35 := ⟨ "cmp.isNaN[int]", of_decide_eq_true (by kernel_rfl), Tryz.func233.trans (congrArg some (by kernel_rfl))⟩
  f40 := ⟨ "slices.order2Ordered[int]", of_decide_eq_true (by kernel_rfl), Tryz.func240.trans (congrArg some (by kernel_rfl))⟩
  t0 := Tryz.underlying0
  a0 := Tryz.isAgg0
  z0 := Tryz.sizeOf0
  v0 := Tryz.zeroValue0
  t3 := Tryz.underlying3
  a3 := Tryz.isAgg3
  z3 := Tryz.sizeOf3
  v3 := Tryz.zeroValue3
  t4 := Tryz.underlying4
  a4 := Tryz.isAgg4
  z4 := Tryz.sizeOf4
  v4 := Tryz.zeroValue4
  t5 := Tryz.underlying5
  a5 := Tryz.isAgg5
  z5 := Tryz.sizeOf5
  v5 := Tryz.zeroValue5
  t9 := Tryz.underlying9
  a9 := Tryz.isAgg9
  z9 := Tryz.sizeOf9
  v9 := Tryz.zeroValue9
  t22 := Tryz.underlying22
  a22 := Tryz.isAgg22
  z22 := Tryz.sizeOf22
  v22 := Tryz.zeroValue22
  t23 := Tryz.underlying22
  a23 := Tryz.isAgg22
  z23 := Tryz.sizeOf22
  v23 := Tryz.zeroValue22
  t25 := Tryz.underlying3
  a25 := Tryz.isAgg3
  z25 := Tryz.sizeOf3
  v25 := Tryz.zeroValue3
  t32 := Tryz.underlying39
  a32 := Tryz.isAgg39
  z32 := Tryz.sizeOf39
  v32 := Tryz.zeroValue39
  t35 := Tryz.underlying233
  a35 := Tryz.isAgg233
  z35 := Tryz.sizeOf233
  v35 := Tryz.zeroValue233
  t36 := Tryz.underlying234
  a36 := Tryz.isAgg234
  z36 := Tryz.sizeOf234
  v36 := Tryz.zeroValue234
  t41 := Tryz.underlying175
  a41 := Tryz.isAgg175
  z41 := Tryz.sizeOf175
  v41 := Tryz.zeroValue175
  t44 := Tryz.underlying222
  a44 := Tryz.isAgg222
  z44 := Tryz.sizeOf222
  v44 := Tryz.zeroValue222
  t46 := Tryz.underlying225
  a46 := Tryz.isAgg225
  z46 := Tryz.sizeOf225
  v46 := Tryz.zeroValue225
  t53 := Tryz.underlying251
  a53 := Tryz.isAgg251
  z53 := Tryz.sizeOf251
  v53 := Tryz.zeroValue251
  t57 := Tryz.underlying255
  a57 := Tryz.isAgg255
  z57 := Tryz.sizeOf255
  v57 := Tryz.zeroValue255
  t63 := Tryz.underlying267
  a63 := Tryz.isAgg267
  z63 := Tryz.sizeOf267
  v63 := Tryz.zeroValue267
  t64 := Tryz.underlying137
  a64 := Tryz.isAgg137
  z64 := Tryz.sizeOf137
  v64 := Tryz.zeroValue137
end Go.Proofs.YtiodpeekbeahlaaGreatDoor
