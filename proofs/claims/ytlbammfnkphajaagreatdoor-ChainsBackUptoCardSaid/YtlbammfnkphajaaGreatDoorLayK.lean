/- The library's premises at this seat's program: which function, type and variable of the library has which number here. -/
import Derived.Test.YtlbammfnkphajaaGreatDoorProg
import Derived.Shelf.SlIterI.Nil
import Derived.Shelf.SortM.Plain
import Derived.Shelf.SortM.SortNone
import Derived.KernelRfl
namespace Go.Proofs.YtlbammfnkphajaaGreatDoor
open Go Go.Proofs Go.Shelf
set_option maxRecDepth 1000000

def keysA_ren : Go.Shelf.Ren :=
{
  f := fun x =>
    match x with
    | 7 => 115
    | 10 => 158
    | n => n,
  t := fun x =>
    match x with
    | 23 => 84
    | 26 => 3
    | 3 => 9
    | 28 => 160
    | 0 => 0
    | 27 => 159
    | 33 => 83
    | 4 => 4
    | n => n,
  g := fun x =>
    have n := x;
    n }

theorem keysA : SlLaysZI.n7 Tryz.prog keysA_ren where
  mixed := by kernel_rfl
  f7 := ⟨ "maps.Keys[map[int]string,int,string]", of_decide_eq_true (by kernel_rfl), Tryz.func115.trans (congrArg some (by kernel_rfl))⟩
  f10 := ⟨ "maps.Keys[map[int]string,int,string]$1", of_decide_eq_true (by kernel_rfl), Tryz.func158.trans (congrArg some (by kernel_rfl))⟩
  t0 := Tryz.underlying0
  a0 := Tryz.isAgg0
  z0 := Tryz.sizeOf0
  v0 := Tryz.zeroValue0
  t4 := Tryz.underlying4
  a4 := Tryz.isAgg4
  z4 := Tryz.sizeOf4
  v4 := Tryz.zeroValue4
  t23 := Tryz.underlying84
  a23 := Tryz.isAgg84
  z23 := Tryz.sizeOf84
  v23 := Tryz.zeroValue84
  t26 := Tryz.underlying3
  a26 := Tryz.isAgg3
  z26 := Tryz.sizeOf3
  v26 := Tryz.zeroValue3
  t27 := Tryz.underlying159
  a27 := Tryz.isAgg159
  z27 := Tryz.sizeOf159
  v27 := Tryz.zeroValue159
  t28 := Tryz.underlying160
  a28 := Tryz.isAgg160
  z28 := Tryz.sizeOf160
  v28 := Tryz.zeroValue160
  t33 := Tryz.underlying83
  a33 := Tryz.isAgg83
  z33 := Tryz.sizeOf83
  v33 := Tryz.zeroValue83

def sortedA_ren : Go.Shelf.Ren :=
{
  f := fun x =>
    match x with
    | 6 => 114
    | 8 => 156
    | 9 => 157
    | 11 => 182
    | 13 => 184
    | 12 => 183
    | 23 => 209
    | 24 => 210
    | 14 => 200
    | 15 => 201
    | 16 => 202
    | 17 => 203
    | 18 => 204
    | 19 => 205
    | 20 => 206
    | 21 => 207
    | 22 => 208
    | 25 => 215
    | 26 => 216
    | 27 => 217
    | 28 => 218
    | 29 => 219
    | 30 => 220
    | 31 => 225
    | n => n,
  t := fun x =>
    match x with
    | 26 => 3
    | 28 => 160
    | 24 => 26
    | 0 => 0
    | 3 => 3
    | 37 => 47
    | 48 => 210
    | 50 => 213
    | 4 => 4
    | 40 => 235
    | 39 => 234
    | 45 => 227
    | 5 => 5
    | 9 => 9
    | 51 => 244
    | 55 => 248
    | 57 => 257
    | 58 => 207
    | 33 => 83
    | n => n,
  g := fun x =>
    have n := x;
    n }

theorem sortedA : SlLaysZI.n6 Tryz.prog sortedA_ren where
  mixed := by kernel_rfl
  f6 := ⟨ "slices.Sorted[int]", of_decide_eq_true (by kernel_rfl), Tryz.func114.trans (congrArg some (by kernel_rfl))⟩
  f8 := ⟨ "slices.Collect[int]", of_decide_eq_true (by kernel_rfl), Tryz.func156.trans (congrArg some (by kernel_rfl))⟩
  f11 := ⟨ "slices.AppendSeq[[]int,int]", of_decide_eq_true (by kernel_rfl), Tryz.func182.trans (congrArg some (by kernel_rfl))⟩
  t0 := Tryz.underlying0
  a0 := Tryz.isAgg0
  z0 := Tryz.sizeOf0
  v0 := Tryz.zeroValue0
  t24 := Tryz.underlying26
  a24 := Tryz.isAgg26
  z24 := Tryz.sizeOf26
  v24 := Tryz.zeroValue26
  t26 := Tryz.underlying3
  a26 := Tryz.isAgg3
  z26 := Tryz.sizeOf3
  v26 := Tryz.zeroValue3
  t28 := Tryz.underlying160
  a28 := Tryz.isAgg160
  z28 := Tryz.sizeOf160
  v28 := Tryz.zeroValue160
  i26 := by kernel_rfl

def sortA_ren : Go.Shelf.Ren :=
{
  f := fun x =>
    match x with
    | 5 => 157
    | 8 => 184
    | 7 => 183
    | 19 => 209
    | 20 => 210
    | 10 => 200
    | 11 => 201
    | 12 => 202
    | 13 => 203
    | 14 => 204
    | 15 => 205
    | 16 => 206
    | 17 => 207
    | 18 => 208
    | 30 => 215
    | 31 => 216
    | 32 => 217
    | 33 => 218
    | 34 => 219
    | 35 => 220
    | 40 => 225
    | n => n,
  t := fun x =>
    match x with
    | 23 => 26
    | 25 => 3
    | 3 => 3
    | 32 => 47
    | 22 => 26
    | 0 => 0
    | 44 => 210
    | 46 => 213
    | 4 => 4
    | 36 => 235
    | 35 => 234
    | 41 => 227
    | 5 => 5
    | 9 => 9
    | 53 => 244
    | 57 => 248
    | 63 => 257
    | 64 => 207
    | n => n,
  g := fun x =>
    have n := x;
    n }

theorem sortA : SlLaysM.n5 Tryz.prog sortA_ren where
  mixed := by kernel_rfl
  f5 := ⟨ "slices.Sort[[]int,int]", of_decide_eq_true (by kernel_rfl), Tryz.func157.trans (congrArg some (by kernel_rfl))⟩
  f7 := ⟨ "slices.pdqsortOrdered[int]", of_decide_eq_true (by kernel_rfl), Tryz.func183.trans (congrArg some (by kernel_rfl))⟩
  f8 := Eq.trans Tryz.func184 (congrArg some (by kernel_rfl))
  f10 := ⟨ "slices.insertionSortOrdered[int]", of_decide_eq_true (by kernel_rfl), Tryz.func200.trans (congrArg some (by kernel_rfl))⟩
  f11 := ⟨ "slices.heapSortOrdered[int]", of_decide_eq_true (by kernel_rfl), Tryz.func201.trans (congrArg some (by kernel_rfl))⟩
  f12 := ⟨ "slices.breakPatternsOrdered[int]", of_decide_eq_true (by kernel_rfl), Tryz.func202.trans (congrArg some (by kernel_rfl))⟩
  f13 := ⟨ "slices.choosePivotOrdered[int]", of_decide_eq_true (by kernel_rfl), Tryz.func203.trans (congrArg some (by kernel_rfl))⟩
  f14 := ⟨ "slices.reverseRangeOrdered[int]", of_decide_eq_true (by kernel_rfl), Tryz.func204.trans (congrArg some (by kernel_rfl))⟩
  f15 := ⟨ "slices.partialInsertionSortOrdered[int]", of_decide_eq_true (by kernel_rfl), Tryz.func205.trans (congrArg some (by kernel_rfl))⟩
  f16 := ⟨ "cmp.Less[int]", of_decide_eq_true (by kernel_rfl), Tryz.func206.trans (congrArg some (by kernel_rfl))⟩
  f17 := ⟨ "slices.partitionEqualOrdered[int]", of_decide_eq_true (by kernel_rfl), Tryz.func207.trans (congrArg some (by kernel_rfl))⟩
  f18 := ⟨ "slices.partitionOrdered[int]", of_decide_eq_true (by kernel_rfl), Tryz.func208.trans (congrArg some (by kernel_rfl))⟩
  f19 := Eq.trans Tryz.func209 (congrArg some (by kernel_rfl))
  f20 := Eq.trans Tryz.func210 (congrArg some (by kernel_rfl))
  f30 := ⟨ "slices.siftDownOrdered[int]", of_decide_eq_true (by kernel_rfl), Tryz.func215.trans (congrArg some (by kernel_rfl))⟩
  f31 := Eq.trans Tryz.func216 (congrArg some (by kernel_rfl))
  f32 := Eq.trans Tryz.func217 (congrArg some (by kernel_rfl))
  f33 := ⟨ "slices.medianAdjacentOrdered[int]", of_decide_eq_true (by kernel_rfl), Tryz.func218.trans (congrArg some (by kernel_rfl))⟩
  f34 := ⟨ "slices.medianOrdered[int]", of_decide_eq_true (by kernel_rfl), Tryz.func219.trans (congrArg some (by kernel_rfl))⟩
  f35 := ⟨ "cmp.isNaN[int]", of_decide_eq_true (by kernel_rfl), Tryz.func220.trans (congrArg some (by kernel_rfl))⟩
  f40 := ⟨ "slices.order2Ordered[int]", of_decide_eq_true (by kernel_rfl), Tryz.func225.trans (congrArg some (by kernel_rfl))⟩
  t0 := Tryz.underlying0
  a0 := Tryz.isAgg0
  z0 := Tryz.sizeOf0
  v0 := Tryz.zeroValue0
  t3 := Tryz.underlying3
  a3 := Tryz.isAgg3
  z3 := Tryz.sizeOf3
  v3 := Tryz.zeroValue3
  t4 := Tryz.underlying4
  a4 := Tryz.isAgg4
  z4 := Tryz.sizeOf4
  v4 := Tryz.zeroValue4
  t5 := Tryz.underlying5
  a5 := Tryz.isAgg5
  z5 := Tryz.sizeOf5
  v5 := Tryz.zeroValue5
  t9 := Tryz.underlying9
  a9 := Tryz.isAgg9
  z9 := Tryz.sizeOf9
  v9 := Tryz.zeroValue9
  t22 := Tryz.underlying26
  a22 := Tryz.isAgg26
  z22 := Tryz.sizeOf26
  v22 := Tryz.zeroValue26
  t23 := Tryz.underlying26
  a23 := Tryz.isAgg26
  z23 := Tryz.sizeOf26
  v23 := Tryz.zeroValue26
  t25 := Tryz.underlying3
  a25 := Tryz.isAgg3
  z25 := Tryz.sizeOf3
  v25 := Tryz.zeroValue3
  t32 := Tryz.underlying47
  a32 := Tryz.isAgg47
  z32 := Tryz.sizeOf47
  v32 := Tryz.zeroValue47
  t35 := Tryz.underlying234
  a35 := Tryz.isAgg234
  z35 := Tryz.sizeOf234
  v35 := Tryz.zeroValue234
  t36 := Tryz.underlying235
  a36 := Tryz.isAgg235
  z36 := Tryz.sizeOf235
  v36 := Tryz.zeroValue235
  t41 := Tryz.underlying227
  a41 := Tryz.isAgg227
  z41 := Tryz.sizeOf227
  v41 := Tryz.zeroValue227
  t44 := Tryz.underlying210
  a44 := Tryz.isAgg210
  z44 := Tryz.sizeOf210
  v44 := Tryz.zeroValue210
  t46 := Tryz.underlying213
  a46 := Tryz.isAgg213
  z46 := Tryz.sizeOf213
  v46 := Tryz.zeroValue213
  t53 := Tryz.underlying244
  a53 := Tryz.isAgg244
  z53 := Tryz.sizeOf244
  v53 := Tryz.zeroValue244
  t57 := Tryz.underlying248
  a57 := Tryz.isAgg248
  z57 := Tryz.sizeOf248
  v57 := Tryz.zeroValue248
  t63 := Tryz.underlying257
  a63 := Tryz.isAgg257
  z63 := Tryz.sizeOf257
  v63 := Tryz.zeroValue257
  t64 := Tryz.underlying207
  a64 := Tryz.isAgg207
  z64 := Tryz.sizeOf207
  v64 := Tryz.zeroValue207
end Go.Proofs.YtlbammfnkphajaaGreatDoor
