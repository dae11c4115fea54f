/- The library's premises at this seat's program: which function, type and variable of the library has which number here. -/
import Derived.Test.YtejeollidbbknaaProg
import Derived.Shelf.SlIterI.Nil
import Derived.Shelf.SortM.Plain
import Derived.Shelf.SortM.SortNone
import Derived.KernelRfl
namespace Go.Proofs.Ytejeollidbbknaa
open Go Go.Proofs Go.Shelf
set_option maxRecDepth 1000000

def keysA_ren : Go.Shelf.Ren :=
{
  f := fun x =>
    match x with
    | 7 => 32
    | 10 => 38
    | n => n,
  t := fun x =>
    match x with
    | 23 => 54
    | 26 => 3
    | 3 => 9
    | 28 => 62
    | 0 => 0
    | 27 => 57
    | 33 => 58
    | 4 => 4
    | n => n,
  g := fun x =>
    have n := x;
    n }

theorem keysA : SlLaysZI.n7 Try.prog keysA_ren where
  mixed := by kernel_rfl
  f7 := ⟨ "maps.Keys[map[int]string,int,string]", of_decide_eq_true (by kernel_rfl), Try.func32.trans (congrArg some (by kernel_rfl))⟩
  f10 := ⟨ "maps.Keys[map[int]string,int,string]$1", of_decide_eq_true (by kernel_rfl), Try.func38.trans (congrArg some (by kernel_rfl))⟩
  t0 := Try.underlying0
  a0 := Try.isAgg0
  z0 := Try.sizeOf0
  v0 := Try.zeroValue0
  t4 := Try.underlying4
  a4 := Try.isAgg4
  z4 := Try.sizeOf4
  v4 := Try.zeroValue4
  t23 := Try.underlying54
  a23 := Try.isAgg54
  z23 := Try.sizeOf54
  v23 := Try.zeroValue54
  t26 := Try.underlying3
  a26 := Try.isAgg3
  z26 := Try.sizeOf3
  v26 := Try.zeroValue3
  t27 := Try.underlying57
  a27 := Try.isAgg57
  z27 := Try.sizeOf57
  v27 := Try.zeroValue57
  t28 := Try.underlying62
  a28 := Try.isAgg62
  z28 := Try.sizeOf62
  v28 := Try.zeroValue62
  t33 := Try.underlying58
  a33 := Try.isAgg58
  z33 := Try.sizeOf58
  v33 := Try.zeroValue58

def sortedA_ren : Go.Shelf.Ren :=
{
  f := fun x =>
    match x with
    | 6 => 31
    | 8 => 36
    | 9 => 37
    | 11 => 41
    | 13 => 43
    | 12 => 42
    | 23 => 59
    | 24 => 60
    | 14 => 50
    | 15 => 51
    | 16 => 52
    | 17 => 53
    | 18 => 54
    | 19 => 55
    | 20 => 56
    | 21 => 57
    | 22 => 58
    | 25 => 66
    | 26 => 67
    | 27 => 68
    | 28 => 69
    | 29 => 70
    | 30 => 71
    | 31 => 74
    | n => n,
  t := fun x =>
    match x with
    | 26 => 3
    | 28 => 62
    | 24 => 38
    | 0 => 0
    | 3 => 3
    | 37 => 43
    | 48 => 94
    | 50 => 96
    | 4 => 4
    | 40 => 86
    | 39 => 85
    | 45 => 91
    | 5 => 5
    | 9 => 9
    | 51 => 102
    | 55 => 106
    | 57 => 111
    | 58 => 112
    | 33 => 58
    | n => n,
  g := fun x =>
    have n := x;
    n }

theorem sortedA : SlLaysZI.n6 Try.prog sortedA_ren where
  mixed := by kernel_rfl
  f6 := ⟨ "slices.Sorted[int]", of_decide_eq_true (by kernel_rfl), Try.func31.trans (congrArg some (by kernel_rfl))⟩
  f8 := ⟨ "slices.Collect[int]", of_decide_eq_true (by kernel_rfl), Try.func36.trans (congrArg some (by kernel_rfl))⟩
  f11 := ⟨ "slices.AppendSeq[[]int,int]", of_decide_eq_true (by kernel_rfl), Try.func41.trans (congrArg some (by kernel_rfl))⟩
  t0 := Try.underlying0
  a0 := Try.isAgg0
  z0 := Try.sizeOf0
  v0 := Try.zeroValue0
  t24 := Try.underlying38
  a24 := Try.isAgg38
  z24 := Try.sizeOf38
  v24 := Try.zeroValue38
  t26 := Try.underlying3
  a26 := Try.isAgg3
  z26 := Try.sizeOf3
  v26 := Try.zeroValue3
  t28 := Try.underlying62
  a28 := Try.isAgg62
  z28 := Try.sizeOf62
  v28 := Try.zeroValue62
  i26 := by kernel_rfl

def sortA_ren : Go.Shelf.Ren :=
{
  f := fun x =>
    match x with
    | 5 => 37
    | 8 => 43
    | 7 => 42
    | 19 => 59
    | 20 => 60
    | 10 => 50
    | 11 => 51
    | 12 => 52
    | 13 => 53
    | 14 => 54
    | 15 => 55
    | 16 => 56
    | 17 => 57
    | 18 => 58
    | 30 => 66
    | 31 => 67
    | 32 => 68
    | 33 => 69
    | 34 => 70
    | 35 => 71
    | 40 => 74
    | n => n,
  t := fun x =>
    match x with
    | 23 => 38
    | 25 => 3
    | 3 => 3
    | 32 => 43
    | 22 => 38
    | 0 => 0
    | 44 => 94
    | 46 => 96
    | 4 => 4
    | 36 => 86
    | 35 => 85
    | 41 => 91
    | 5 => 5
    | 9 => 9
    | 53 => 102
    | 57 => 106
    | 63 => 111
    | 64 => 112
    | n => n,
  g := fun x =>
    have n := x;
    n }

theorem sortA : SlLaysM.n5 Try.prog sortA_ren where
  mixed := by kernel_rfl
  f5 := ⟨ "slices.Sort[[]int,int]", of_decide_eq_true (by kernel_rfl), Try.func37.trans (congrArg some (by kernel_rfl))⟩
  f7 := ⟨ "slices.pdqsortOrdered[int]", of_decide_eq_true (by kernel_rfl), Try.func42.trans (congrArg some (by kernel_rfl))⟩
  f8 := Eq.trans Try.func43 (congrArg some (by kernel_rfl))
  f10 := ⟨ "slices.insertionSortOrdered[int]", of_decide_eq_true (by kernel_rfl), Try.func50.trans (congrArg some (by kernel_rfl))⟩
  f11 := ⟨ "slices.heapSortOrdered[int]", of_decide_eq_true (by kernel_rfl), Try.func51.trans (congrArg some (by kernel_rfl))⟩
  f12 := ⟨ "slices.breakPatternsOrdered[int]", of_decide_eq_true (by kernel_rfl), Try.func52.trans (congrArg some (by kernel_rfl))⟩
  f13 := ⟨ "slices.choosePivotOrdered[int]", of_decide_eq_true (by kernel_rfl), Try.func53.trans (congrArg some (by kernel_rfl))⟩
  f14 := ⟨ "slices.reverseRangeOrdered[int]", of_decide_eq_true (by kernel_rfl), Try.func54.trans (congrArg some (by kernel_rfl))⟩
  f15 := ⟨ "slices.partialInsertionSortOrdered[int]", of_decide_eq_true (by kernel_rfl), Try.func55.trans (congrArg some (by kernel_rfl))⟩
  f16 := ⟨ "cmp.Less[int]", of_decide_eq_true (by kernel_rfl), Try.func56.trans (congrArg some (by kernel_rfl))⟩
  f17 := ⟨ "slices.partitionEqualOrdered[int]", of_decide_eq_true (by kernel_rfl), Try.func57.trans (congrArg some (by kernel_rfl))⟩
  f18 := ⟨ "slices.partitionOrdered[int]", of_decide_eq_true (by kernel_rfl), Try.func58.trans (congrArg some (by kernel_rfl))⟩
  f19 := Eq.trans Try.func59 (congrArg some (by kernel_rfl))
  f20 := Eq.trans Try.func60 (congrArg some (by kernel_rfl))
  f30 := ⟨ "slices.siftDownOrdered[int]", of_decide_eq_true (by kernel_rfl), Try.func66.trans (congrArg some (by kernel_rfl))⟩
  f31 := Eq.trans Try.func67 (congrArg some (by kernel_rfl))
  f32 := Eq.trans Try.func68 (congrArg some (by kernel_rfl))
  f33 := ⟨ "slices.medianAdjacentOrdered[int]", of_decide_eq_true (by kernel_rfl), Try.func69.trans (congrArg some (by kernel_rfl))⟩
  f34 := ⟨ "slices.medianOrdered[int]", of_decide_eq_true (by kernel_rfl), Try.func70.trans (congrArg some (by kernel_rfl))⟩
  f35 := ⟨ "cmp.isNaN[int]", of_decide_eq_true (by kernel_rfl), Try.func71.trans (congrArg some (by kernel_rfl))⟩
  f40 := ⟨ "slices.order2Ordered[int]", of_decide_eq_true (by kernel_rfl), Try.func74.trans (congrArg some (by kernel_rfl))⟩
  t0 := Try.underlying0
  a0 := Try.isAgg0
  z0 := Try.sizeOf0
  v0 := Try.zeroValue0
  t3 := Try.underlying3
  a3 := Try.isAgg3
  z3 := Try.sizeOf3
  v3 := Try.zeroValue3
  t4 := Try.underlying4
  a4 := Try.isAgg4
  z4 := Try.sizeOf4
  v4 := Try.zeroValue4
  t5 := Try.underlying5
  a5 := Try.isAgg5
  z5 := Try.sizeOf5
  v5 := Try.zeroValue5
  t9 := Try.underlying9
  a9 := Try.isAgg9
  z9 := Try.sizeOf9
  v9 := Try.zeroValue9
  t22 := Try.underlying38
  a22 := Try.isAgg38
  z22 := Try.sizeOf38
  v22 := Try.zeroValue38
  t23 := Try.underlying38
  a23 := Try.isAgg38
  z23 := Try.sizeOf38
  v23 := Try.zeroValue38
  t25 := Try.underlying3
  a25 := Try.isAgg3
  z25 := Try.sizeOf3
  v25 := Try.zeroValue3
  t32 := Try.underlying43
  a32 := Try.isAgg43
  z32 := Try.sizeOf43
  v32 := Try.zeroValue43
  t35 := Try.underlying85
  a35 := Try.isAgg85
  z35 := Try.sizeOf85
  v35 := Try.zeroValue85
  t36 := Try.underlying86
  a36 := Try.isAgg86
  z36 := Try.sizeOf86
  v36 := Try.zeroValue86
  t41 := Try.underlying91
  a41 := Try.isAgg91
  z41 := Try.sizeOf91
  v41 := Try.zeroValue91
  t44 := Try.underlying94
  a44 := Try.isAgg94
  z44 := Try.sizeOf94
  v44 := Try.zeroValue94
  t46 := Try.underlying96
  a46 := Try.isAgg96
  z46 := Try.sizeOf96
  v46 := Try.zeroValue96
  t53 := Try.underlying102
  a53 := Try.isAgg102
  z53 := Try.sizeOf102
  v53 := Try.zeroValue102
  t57 := Try.underlying106
  a57 := Try.isAgg106
  z57 := Try.sizeOf106
  v57 := Try.zeroValue106
  t63 := Try.underlying111
  a63 := Try.isAgg111
  z63 := Try.sizeOf111
  v63 := Try.zeroValue111
  t64 := Try.underlying112
  a64 := Try.isAgg112
  z64 := Try.sizeOf112
  v64 := Try.zeroValue112
end Go.Proofs.Ytejeollidbbknaa
