/- The library's premises at this seat's program: which function, type and variable of the library has which number here. -/
import Derived.Test.YtejeollidbbknaaProg
import Derived.Shelf.Strings.Repeat
import Derived.KernelRfl
namespace Go.Proofs.Ytejeollidbbknaa
open Go Go.Proofs Go.Shelf
set_option maxRecDepth 1000000

def lays105_ren : Go.Shelf.Ren :=
{
  f := fun x =>
    match x with
    | 105 => 40
    | 212 => 44
    | 99 => 45
    | 165 => 46
    | 166 => 47
    | 170 => 48
    | 169 => 49
    | 263 => 61
    | 264 => 62
    | 206 => 63
    | 240 => 64
    | 241 => 65
    | 276 => 72
    | 277 => 73
    | n => n,
  t := fun x =>
    match x with
    | 9 => 9
    | 3 => 3
    | 4 => 4
    | 20 => 20
    | 0 => 0
    | 46 => 43
    | 109 => 73
    | 5 => 5
    | 72 => 78
    | 76 => 81
    | 51 => 94
    | 146 => 97
    | 53 => 96
    | 148 => 99
    | 70 => 76
    | 37 => 66
    | 75 => 80
    | 127 => 101
    | 164 => 108
    | 80 => 83
    | n => n,
  g := fun x =>
    have n := x;
    n }

theorem lays105 : Lays.n105 Try.prog lays105_ren where
  mixed := by kernel_rfl
  f99 := Eq.trans Try.func45 (congrArg some (by kernel_rfl))
  f105 := Eq.trans Try.func40 (congrArg some (by kernel_rfl))
  f165 := Eq.trans Try.func46 (congrArg some (by kernel_rfl))
  f166 := Eq.trans Try.func47 (congrArg some (by kernel_rfl))
  f169 := Eq.trans Try.func49 (congrArg some (by kernel_rfl))
  f170 := Eq.trans Try.func48 (congrArg some (by kernel_rfl))
  f206 := Eq.trans Try.func63 (congrArg some (by kernel_rfl))
  f212 := Eq.trans Try.func44 (congrArg some (by kernel_rfl))
  f240 := Eq.trans Try.func64 (congrArg some (by kernel_rfl))
  f241 := Eq.trans Try.func65 (congrArg some (by kernel_rfl))
  f263 := Eq.trans Try.func61 (congrArg some (by kernel_rfl))
  f264 := Eq.trans Try.func62 (congrArg some (by kernel_rfl))
  f276 := Eq.trans Try.func72 (congrArg some (by kernel_rfl))
  f277 := Eq.trans Try.func73 (congrArg some (by kernel_rfl))
  t0 := Try.underlying0
  a0 := Try.isAgg0
  z0 := Try.sizeOf0
  v0 := Try.zeroValue0
  t3 := Try.underlying3
  a3 := Try.isAgg3
  z3 := Try.sizeOf3
  v3 := Try.zeroValue3
  t4 := Try.underlying4
  a4 := Try.isAgg4
  z4 := Try.sizeOf4
  v4 := Try.zeroValue4
  t5 := Try.underlying5
  a5 := Try.isAgg5
  z5 := Try.sizeOf5
  v5 := Try.zeroValue5
  t9 := Try.underlying9
  a9 := Try.isAgg9
  z9 := Try.sizeOf9
  v9 := Try.zeroValue9
  t20 := Try.underlying20
  a20 := Try.isAgg20
  z20 := Try.sizeOf20
  v20 := Try.zeroValue20
  t37 := Try.underlying66
  a37 := Try.isAgg66
  z37 := Try.sizeOf66
  v37 := Try.zeroValue66
  t46 := Try.underlying43
  a46 := Try.isAgg43
  z46 := Try.sizeOf43
  v46 := Try.zeroValue43
  t51 := Try.underlying94
  a51 := Try.isAgg94
  z51 := Try.sizeOf94
  v51 := Try.zeroValue94
  t53 := Try.underlying96
  a53 := Try.isAgg96
  z53 := Try.sizeOf96
  v53 := Try.zeroValue96
  t70 := Try.underlying76
  a70 := Try.isAgg76
  z70 := Try.sizeOf76
  v70 := Try.zeroValue76
  t72 := Try.underlying78
  a72 := Try.isAgg78
  z72 := Try.sizeOf78
  v72 := Try.zeroValue78
  t75 := Try.underlying80
  a75 := Try.isAgg80
  z75 := Try.sizeOf80
  v75 := Try.zeroValue80
  t76 := Try.underlying81
  a76 := Try.isAgg81
  z76 := Try.sizeOf81
  v76 := Try.zeroValue81
  t109 := Try.underlying73
  a109 := Try.isAgg73
  z109 := Try.sizeOf73
  v109 := Try.zeroValue73
  t127 := Try.underlying101
  a127 := Try.isAgg101
  z127 := Try.sizeOf101
  v127 := Try.zeroValue101
  t146 := Try.underlying97
  a146 := Try.isAgg97
  z146 := Try.sizeOf97
  v146 := Try.zeroValue97
  t148 := Try.underlying99
  a148 := Try.isAgg99
  z148 := Try.sizeOf99
  v148 := Try.zeroValue99
  t164 := Try.underlying108
  a164 := Try.isAgg108
  z164 := Try.sizeOf108
  v164 := Try.zeroValue108
end Go.Proofs.Ytejeollidbbknaa
