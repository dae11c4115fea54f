/- The library's premises at this seat's program: which function, type and variable of the library has which number here. -/
import Derived.Test.YtldmeogadmgkiaaDoorProg
import Derived.Shelf.Strings.Repeat
import Derived.Shelf.Strings.Search2
import Derived.Shelf.Small.Strs
import Derived.KernelRfl
namespace Go.Proofs.YtldmeogadmgkiaaDoor
open Go Go.Proofs Go.Shelf
set_option maxRecDepth 1000000

def lays105_ren : Go.Shelf.Ren :=
{
  f := fun x =>
    match x with
    | 105 => 18
    | 212 => 29
    | 99 => 30
    | 165 => 31
    | 166 => 32
    | 170 => 33
    | 169 => 34
    | 263 => 41
    | 264 => 42
    | 206 => 43
    | 240 => 44
    | 241 => 45
    | 276 => 52
    | 277 => 53
    | n => n,
  t := fun x =>
    match x with
    | 9 => 9
    | 3 => 3
    | 4 => 4
    | 20 => 20
    | 0 => 0
    | 46 => 41
    | 109 => 49
    | 5 => 5
    | 72 => 54
    | 76 => 58
    | 51 => 67
    | 146 => 68
    | 53 => 70
    | 148 => 71
    | 70 => 52
    | 37 => 40
    | 75 => 57
    | 127 => 73
    | 164 => 76
    | 80 => 61
    | n => n,
  g := fun x =>
    have n := x;
    n }

theorem lays105 : Lays.n105 Tryd.prog lays105_ren where
  mixed := by kernel_rfl
  f99 := Eq.trans Tryd.func30 (congrArg some (by kernel_rfl))
  f105 := Eq.trans Tryd.func18 (congrArg some (by kernel_rfl))
  f165 := Eq.trans Tryd.func31 (congrArg some (by kernel_rfl))
  f166 := Eq.trans Tryd.func32 (congrArg some (by kernel_rfl))
  f169 := Eq.trans Tryd.func34 (congrArg some (by kernel_rfl))
  f170 := Eq.trans Tryd.func33 (congrArg some (by kernel_rfl))
  f206 := Eq.trans Tryd.func43 (congrArg some (by kernel_rfl))
  f212 := Eq.trans Tryd.func29 (congrArg some (by kernel_rfl))
  f240 := Eq.trans Tryd.func44 (congrArg some (by kernel_rfl))
  f241 := Eq.trans Tryd.func45 (congrArg some (by kernel_rfl))
  f263 := Eq.trans Tryd.func41 (congrArg some (by kernel_rfl))
  f264 := Eq.trans Tryd.func42 (congrArg some (by kernel_rfl))
  f276 := Eq.trans Tryd.func52 (congrArg some (by kernel_rfl))
  f277 := Eq.trans Tryd.func53 (congrArg some (by kernel_rfl))
  t0 := Tryd.underlying0
  a0 := Tryd.isAgg0
  z0 := Tryd.sizeOf0
  v0 := Tryd.zeroValue0
  t3 := Tryd.underlying3
  a3 := Tryd.isAgg3
  z3 := Tryd.sizeOf3
  v3 := Tryd.zeroValue3
  t4 := Tryd.underlying4
  a4 := Tryd.isAgg4
  z4 := Tryd.sizeOf4
  v4 := Tryd.zeroValue4
  t5 := Tryd.underlying5
  a5 := Tryd.isAgg5
  z5 := Tryd.sizeOf5
  v5 := Tryd.zeroValue5
  t9 := Tryd.underlying9
  a9 := Tryd.isAgg9
  z9 := Tryd.sizeOf9
  v9 := Tryd.zeroValue9
  t20 := Tryd.underlying20
  a20 := Tryd.isAgg20
  z20 := Tryd.sizeOf20
  v20 := Tryd.zeroValue20
  t37 := Tryd.underlying40
  a37 := Tryd.isAgg40
  z37 := Tryd.sizeOf40
  v37 := Tryd.zeroValue40
  t46 := Tryd.underlying41
  a46 := Tryd.isAgg41
  z46 := Tryd.sizeOf41
  v46 := Tryd.zeroValue41
  t51 := Tryd.underlying67
  a51 := Tryd.isAgg67
  z51 := Tryd.sizeOf67
  v51 := Tryd.zeroValue67
  t53 := Tryd.underlying70
  a53 := Tryd.isAgg70
  z53 := Tryd.sizeOf70
  v53 := Tryd.zeroValue70
  t70 := Tryd.underlying52
  a70 := Tryd.isAgg52
  z70 := Tryd.sizeOf52
  v70 := Tryd.zeroValue52
  t72 := Tryd.underlying54
  a72 := Tryd.isAgg54
  z72 := Tryd.sizeOf54
  v72 := Tryd.zeroValue54
  t75 := Tryd.underlying57
  a75 := Tryd.isAgg57
  z75 := Tryd.sizeOf57
  v75 := Tryd.zeroValue57
  t76 := Tryd.underlying58
  a76 := Tryd.isAgg58
  z76 := Tryd.sizeOf58
  v76 := Tryd.zeroValue58
  t109 := Tryd.underlying49
  a109 := Tryd.isAgg49
  z109 := Tryd.sizeOf49
  v109 := Tryd.zeroValue49
  t127 := Tryd.underlying73
  a127 := Tryd.isAgg73
  z127 := Tryd.sizeOf73
  v127 := Tryd.zeroValue73
  t146 := Tryd.underlying68
  a146 := Tryd.isAgg68
  z146 := Tryd.sizeOf68
  v146 := Tryd.zeroValue68
  t148 := Tryd.underlying71
  a148 := Tryd.isAgg71
  z148 := Tryd.sizeOf71
  v148 := Tryd.zeroValue71
  t164 := Tryd.underlying76
  a164 := Tryd.isAgg76
  z164 := Tryd.sizeOf76
  v164 := Tryd.zeroValue76

def lays137_ren : Go.Shelf.Ren :=
{
  f := fun x =>
    match x with
    | 137 => 15
    | 217 => 20
    | 266 => 35
    | n => n,
  t := fun x =>
    match x with
    | 9 => 9
    | 5 => 5
    | 3 => 3
    | n => n,
  g := fun x =>
    have n := x;
    n }

theorem lays137 : Lays.n137 Tryd.prog lays137_ren where
  mixed := by kernel_rfl
  f137 := Eq.trans Tryd.func15 (congrArg some (by kernel_rfl))
  f217 := Eq.trans Tryd.func20 (congrArg some (by kernel_rfl))
  f266 := Eq.trans Tryd.func35 (congrArg some (by kernel_rfl))
  t3 := Tryd.underlying3
  a3 := Tryd.isAgg3
  z3 := Tryd.sizeOf3
  v3 := Tryd.zeroValue3
  t5 := Tryd.underlying5
  a5 := Tryd.isAgg5
  z5 := Tryd.sizeOf5
  v5 := Tryd.zeroValue5
  t9 := Tryd.underlying9
  a9 := Tryd.isAgg9
  z9 := Tryd.sizeOf9
  v9 := Tryd.zeroValue9

def lays219_ren : Go.Shelf.Ren :=
{
  f := fun x =>
    match x with
    | 219 => 36
    | 217 => 20
    | 225 => 46
    | 224 => 47
    | 267 => 48
    | 266 => 35
    | 314 => 54
    | n => n,
  t := fun x =>
    match x with
    | 9 => 9
    | 3 => 3
    | 4 => 4
    | 5 => 5
    | 46 => 41
    | 146 => 68
    | 51 => 67
    | n => n,
  g := fun x =>
    match x with
    | 1 => 0
    | n => n }

theorem lays219 : Lays.n219 Tryd.prog lays219_ren where
  mixed := by kernel_rfl
  f217 := Eq.trans Tryd.func20 (congrArg some (by kernel_rfl))
  f219 := Eq.trans Tryd.func36 (congrArg some (by kernel_rfl))
  f224 := Eq.trans Tryd.func47 (congrArg some (by kernel_rfl))
  f225 := Eq.trans Tryd.func46 (congrArg some (by kernel_rfl))
  f266 := Eq.trans Tryd.func35 (congrArg some (by kernel_rfl))
  f267 := Eq.trans Tryd.func48 (congrArg some (by kernel_rfl))
  f314 := Eq.trans Tryd.func54 (congrArg some (by kernel_rfl))
  t3 := Tryd.underlying3
  a3 := Tryd.isAgg3
  z3 := Tryd.sizeOf3
  v3 := Tryd.zeroValue3
  t4 := Tryd.underlying4
  a4 := Tryd.isAgg4
  z4 := Tryd.sizeOf4
  v4 := Tryd.zeroValue4
  t5 := Tryd.underlying5
  a5 := Tryd.isAgg5
  z5 := Tryd.sizeOf5
  v5 := Tryd.zeroValue5
  t9 := Tryd.underlying9
  a9 := Tryd.isAgg9
  z9 := Tryd.sizeOf9
  v9 := Tryd.zeroValue9
  t46 := Tryd.underlying41
  a46 := Tryd.isAgg41
  z46 := Tryd.sizeOf41
  v46 := Tryd.zeroValue41
  t51 := Tryd.underlying67
  a51 := Tryd.isAgg67
  z51 := Tryd.sizeOf67
  v51 := Tryd.zeroValue67
  t146 := Tryd.underlying68
  a146 := Tryd.isAgg68
  z146 := Tryd.sizeOf68
  v146 := Tryd.zeroValue68
  g1 := by kernel_rfl
end Go.Proofs.YtldmeogadmgkiaaDoor
