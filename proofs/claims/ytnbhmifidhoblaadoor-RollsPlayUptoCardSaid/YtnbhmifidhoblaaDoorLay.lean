/- The library's premises at this seat's program: which function, type and variable of the library has which number here. -/
import Derived.Test.YtnbhmifidhoblaaDoorProg
import Derived.Shelf.Strings.SlTrimAsciiWalks
import Derived.Shelf.Strings.Runes
import Derived.KernelRfl
namespace Go.Proofs.YtnbhmifidhoblaaDoor
open Go Go.Proofs Go.Shelf
def lays160_ren : Go.Shelf.Ren :=
{
  f := fun x =>
    match x with
    | 160 => 49
    | 232 => 68
    | 231 => 67
    | 227 => 69
    | 234 => 71
    | 233 => 70
    | 236 => 73
    | 235 => 72
    | 228 => 82
    | 271 => 84
    | 151 => 52
    | 197 => 83
    | 120 => 96
    | 152 => 75
    | 260 => 95
    | 137 => 58
    | 119 => 86
    | 224 => 87
    | 225 => 88
    | 217 => 76
    | 266 => 89
    | n => n,
  t := fun x =>
    match x with
    | 9 => 9
    | 4 => 4
    | 3 => 3
    | 5 => 5
    | 117 => 91
    | 116 => 90
    | 0 => 0
    | 124 => 94
    | 21 => 21
    | 105 => 103
    | 46 => 83
    | 119 => 118
    | 139 => 121
    | 138 => 120
    | n => n,
  g := fun x =>
    match x with
    | 3 => 1
    | 4 => 2
    | n => n }

set_option maxRecDepth 1000000 in
theorem lays160 : Lays.n160 Tryd.prog lays160_ren where
  mixed := by kernel_rfl
  f119 := Eq.trans Tryd.func86 (congrArg some (by kernel_rfl))
  f120 := Eq.trans Tryd.func96 (congrArg some (by kernel_rfl))
  f137 := Eq.trans Tryd.func58 (congrArg some (by kernel_rfl))
  f151 := Eq.trans Tryd.func52 (congrArg some (by kernel_rfl))
  f152 := Eq.trans Tryd.func75 (congrArg some (by kernel_rfl))
  f160 := Eq.trans Tryd.func49 (congrArg some (by kernel_rfl))
  f197 := Eq.trans Tryd.func83 (congrArg some (by kernel_rfl))
  f217 := Eq.trans Tryd.func76 (congrArg some (by kernel_rfl))
  f224 := Eq.trans Tryd.func87 (congrArg some (by kernel_rfl))
  f225 := Eq.trans Tryd.func88 (congrArg some (by kernel_rfl))
  f227 := Eq.trans Tryd.func69 (congrArg some (by kernel_rfl))
  f228 := Eq.trans Tryd.func82 (congrArg some (by kernel_rfl))
  f231 := Eq.trans Tryd.func67 (congrArg some (by kernel_rfl))
  f232 := Eq.trans Tryd.func68 (congrArg some (by kernel_rfl))
  f233 := Eq.trans Tryd.func70 (congrArg some (by kernel_rfl))
  f234 := Eq.trans Tryd.func71 (congrArg some (by kernel_rfl))
  f235 := Eq.trans Tryd.func72 (congrArg some (by kernel_rfl))
  f236 := Eq.trans Tryd.func73 (congrArg some (by kernel_rfl))
  f260 := Eq.trans Tryd.func95 (congrArg some (by kernel_rfl))
  f266 := Eq.trans Tryd.func89 (congrArg some (by kernel_rfl))
  f271 := Eq.trans Tryd.func84 (congrArg some (by kernel_rfl))
  t0 := Tryd.underlying0
  a0 := Tryd.isAgg0
  z0 := Tryd.sizeOf0
  v0 := Tryd.zeroValue0
  t3 := Tryd.underlying3
  a3 := Tryd.isAgg3
  z3 := Tryd.sizeOf3
  v3 := Tryd.zeroValue3
  t4 := Tryd.underlying4
  a4 := Tryd.isAgg4
  z4 := Tryd.sizeOf4
  v4 := Tryd.zeroValue4
  t5 := Tryd.underlying5
  a5 := Tryd.isAgg5
  z5 := Tryd.sizeOf5
  v5 := Tryd.zeroValue5
  t9 := Tryd.underlying9
  a9 := Tryd.isAgg9
  z9 := Tryd.sizeOf9
  v9 := Tryd.zeroValue9
  t21 := Tryd.underlying21
  a21 := Tryd.isAgg21
  z21 := Tryd.sizeOf21
  v21 := Tryd.zeroValue21
  t46 := Tryd.underlying83
  a46 := Tryd.isAgg83
  z46 := Tryd.sizeOf83
  v46 := Tryd.zeroValue83
  t105 := Tryd.underlying103
  a105 := Tryd.isAgg103
  z105 := Tryd.sizeOf103
  v105 := Tryd.zeroValue103
  t116 := Tryd.underlying90
  a116 := Tryd.isAgg90
  z116 := Tryd.sizeOf90
  t117 := Tryd.underlying91
  a117 := Tryd.isAgg91
  z117 := Tryd.sizeOf91
  v117 := Tryd.zeroValue91
  t119 := Tryd.underlying118
  a119 := Tryd.isAgg118
  z119 := Tryd.sizeOf118
  t124 := Tryd.underlying94
  a124 := Tryd.isAgg94
  z124 := Tryd.sizeOf94
  v124 := Tryd.zeroValue94
  t138 := Tryd.underlying120
  a138 := Tryd.isAgg120
  z138 := Tryd.sizeOf120
  v138 := Tryd.zeroValue120
  t139 := Tryd.underlying121
  a139 := Tryd.isAgg121
  z139 := Tryd.sizeOf121
  v139 := Tryd.zeroValue121
  g3 := by kernel_rfl
  g4 := by kernel_rfl
end Go.Proofs.YtnbhmifidhoblaaDoor
