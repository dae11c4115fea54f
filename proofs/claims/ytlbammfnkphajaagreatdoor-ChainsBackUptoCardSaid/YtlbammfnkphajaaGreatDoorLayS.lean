/- The library's premises at this seat's program: which function, type and variable of the library has which number here. -/
import Derived.Test.YtlbammfnkphajaaGreatDoorProg
import Derived.Shelf.Strings.Repeat
import Derived.Shelf.Strings.Search2
import Derived.Shelf.Small.Strs
import Derived.KernelRfl
namespace Go.Proofs.YtlbammfnkphajaaGreatDoor
open Go Go.Proofs Go.Shelf
set_option maxRecDepth 1000000

def lays105_ren : Go.Shelf.Ren :=
{
  f := fun x =>
    match x with
    | 105 => 101
    | 212 => 147
    | 99 => 148
    | 165 => 149
    | 166 => 150
    | 170 => 151
    | 169 => 152
    | 263 => 175
    | 264 => 176
    | 206 => 177
    | 240 => 178
    | 241 => 179
    | 276 => 198
    | 277 => 199
    | n => n,
  t := fun x =>
    match x with
    | 9 => 9
    | 3 => 3
    | 4 => 4
    | 20 => 20
    | 0 => 0
    | 46 => 47
    | 109 => 180
    | 5 => 5
    | 72 => 185
    | 76 => 189
    | 51 => 210
    | 146 => 211
    | 53 => 213
    | 148 => 214
    | 70 => 183
    | 37 => 141
    | 75 => 188
    | 127 => 216
    | 164 => 230
    | 80 => 191
    | n => n,
  g := fun x =>
    have n := x;
    n }

theorem lays105 : Lays.n105 Tryz.prog lays105_ren where
  mixed := by kernel_rfl
  f99 := Eq.trans Tryz.func148 (congrArg some (by kernel_rfl))
  f105 := Eq.trans Tryz.func101 (congrArg some (by kernel_rfl))
  f165 := Eq.trans Tryz.func149 (congrArg some (by kernel_rfl))
  f166 := Eq.trans Tryz.func150 (congrArg some (by kernel_rfl))
  f169 := Eq.trans Tryz.func152 (congrArg some (by kernel_rfl))
  f170 := Eq.trans Tryz.func151 (congrArg some (by kernel_rfl))
  f206 := Eq.trans Tryz.func177 (congrArg some (by kernel_rfl))
  f212 := Eq.trans Tryz.func147 (congrArg some (by kernel_rfl))
  f240 := Eq.trans Tryz.func178 (congrArg some (by kernel_rfl))
  f241 := Eq.trans Tryz.func179 (congrArg some (by kernel_rfl))
  f263 := Eq.trans Tryz.func175 (congrArg some (by kernel_rfl))
  f264 := Eq.trans Tryz.func176 (congrArg some (by kernel_rfl))
  f276 := Eq.trans Tryz.func198 (congrArg some (by kernel_rfl))
  f277 := Eq.trans Tryz.func199 (congrArg some (by kernel_rfl))
  t0 := Tryz.underlying0
  a0 := Tryz.isAgg0
  z0 := Tryz.sizeOf0
  v0 := Tryz.zeroValue0
  t3 := Tryz.underlying3
  a3 := Tryz.isAgg3
  z3 := Tryz.sizeOf3
  v3 := Tryz.zeroValue3
  t4 := Tryz.underlying4
  a4 := Tryz.isAgg4
  z4 := Tryz.sizeOf4
  v4 := Tryz.zeroValue4
  t5 := Tryz.underlying5
  a5 := Tryz.isAgg5
  z5 := Tryz.sizeOf5
  v5 := Tryz.zeroValue5
  t9 := Tryz.underlying9
  a9 := Tryz.isAgg9
  z9 := Tryz.sizeOf9
  v9 := Tryz.zeroValue9
  t20 := Tryz.underlying20
  a20 := Tryz.isAgg20
  z20 := Tryz.sizeOf20
  v20 := Tryz.zeroValue20
  t37 := Tryz.underlying141
  a37 := Tryz.isAgg141
  z37 := Tryz.sizeOf141
  v37 := Tryz.zeroValue141
  t46 := Tryz.underlying47
  a46 := Tryz.isAgg47
  z46 := Tryz.sizeOf47
  v46 := Tryz.zeroValue47
  t51 := Tryz.underlying210
  a51 := Tryz.isAgg210
  z51 := Tryz.sizeOf210
  v51 := Tryz.zeroValue210
  t53 := Tryz.underlying213
  a53 := Tryz.isAgg213
  z53 := Tryz.sizeOf213
  v53 := Tryz.zeroValue213
  t70 := Tryz.underlying183
  a70 := Tryz.isAgg183
  z70 := Tryz.sizeOf183
  v70 := Tryz.zeroValue183
  t72 := Tryz.underlying185
  a72 := Tryz.isAgg185
  z72 := Tryz.sizeOf185
  v72 := Tryz.zeroValue185
  t75 := Tryz.underlying188
  a75 := Tryz.isAgg188
  z75 := Tryz.sizeOf188
  v75 := Tryz.zeroValue188
  t76 := Tryz.underlying189
  a76 := Tryz.isAgg189
  z76 := Tryz.sizeOf189
  v76 := Tryz.zeroValue189
  t109 := Tryz.underlying180
  a109 := Tryz.isAgg180
  z109 := Tryz.sizeOf180
  v109 := Tryz.zeroValue180
  t127 := Tryz.underlying216
  a127 := Tryz.isAgg216
  z127 := Tryz.sizeOf216
  v127 := Tryz.zeroValue216
  t146 := Tryz.underlying211
  a146 := Tryz.isAgg211
  z146 := Tryz.sizeOf211
  v146 := Tryz.zeroValue211
  t148 := Tryz.underlying214
  a148 := Tryz.isAgg214
  z148 := Tryz.sizeOf214
  v148 := Tryz.zeroValue214
  t164 := Tryz.underlying230
  a164 := Tryz.isAgg230
  z164 := Tryz.sizeOf230
  v164 := Tryz.zeroValue230

def lays137_ren : Go.Shelf.Ren :=
{
  f := fun x =>
    match x with
    | 137 => 221
    | 217 => 226
    | 266 => 227
    | n => n,
  t := fun x =>
    match x with
    | 9 => 9
    | 5 => 5
    | 3 => 3
    | n => n,
  g := fun x =>
    have n := x;
    n }

theorem lays137 : Lays.n137 Tryz.prog lays137_ren where
  mixed := by kernel_rfl
  f137 := Eq.trans Tryz.func221 (congrArg some (by kernel_rfl))
  f217 := Eq.trans Tryz.func226 (congrArg some (by kernel_rfl))
  f266 := Eq.trans Tryz.func227 (congrArg some (by kernel_rfl))
  t3 := Tryz.underlying3
  a3 := Tryz.isAgg3
  z3 := Tryz.sizeOf3
  v3 := Tryz.zeroValue3
  t5 := Tryz.underlying5
  a5 := Tryz.isAgg5
  z5 := Tryz.sizeOf5
  v5 := Tryz.zeroValue5
  t9 := Tryz.underlying9
  a9 := Tryz.isAgg9
  z9 := Tryz.sizeOf9
  v9 := Tryz.zeroValue9
end Go.Proofs.YtlbammfnkphajaaGreatDoor
