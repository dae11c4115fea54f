/- The library's premises at this seat's program: which function, type and variable of the library has which number here. -/
import Derived.Test.YtiodpeekbeahlaaGreatDoorProg
import Derived.Shelf.Strings.Repeat
import Derived.Shelf.Strings.Search2
import Derived.Shelf.Small.Strs
import Derived.KernelRfl
namespace Go.Proofs.YtiodpeekbeahlaaGreatDoor
open Go Go.Proofs Go.Shelf
set_option maxRecDepth 1000000

def lays105_ren : Go.Shelf.Ren :=
{
  f := fun x =>
    match x with
    | 105 => 156
    | 212 => 163
    | 99 => 184
    | 165 => 185
    | 166 => 186
    | 170 => 187
    | 169 => 188
    | 263 => 196
    | 264 => 197
    | 206 => 214
    | 240 => 216
    | 241 => 217
    | 276 => 234
    | 277 => 235
    | n => n,
  t := fun x =>
    match x with
    | 9 => 9
    | 3 => 3
    | 4 => 4
    | 20 => 20
    | 0 => 0
    | 46 => 39
    | 109 => 191
    | 5 => 5
    | 72 => 211
    | 76 => 215
    | 51 => 222
    | 146 => 223
    | 53 => 225
    | 148 => 226
    | 70 => 209
    | 37 => 23
    | 75 => 214
    | 127 => 243
    | 164 => 257
    | 80 => 217
    | n => n,
  g := fun x =>
    have n := x;
    n }

theorem lays105 : Lays.n105 Tryz.prog lays105_ren where
  mixed := by kernel_rfl
  f99 := Eq.trans Tryz.func184 (congrArg some (by kernel_rfl))
  f105 := Eq.trans Tryz.func156 (congrArg some (by kernel_rfl))
  f165 := Eq.trans Tryz.func185 (congrArg some (by kernel_rfl))
  f166 := Eq.trans Tryz.func186 (congrArg some (by kernel_rfl))
  f169 := Eq.trans Tryz.func188 (congrArg some (by kernel_rfl))
  f170 := Eq.trans Tryz.func187 (congrArg some (by kernel_rfl))
  f206 := Eq.trans Tryz.func214 (congrArg some (by kernel_rfl))
  f212 := Eq.trans Tryz.func163 (congrArg some (by kernel_rfl))
  f240 := Eq.trans Tryz.func216 (congrArg some (by kernel_rfl))
  f241 := Eq.trans Tryz.func217 (congrArg some (by kernel_rfl))
  f263 := Eq.trans Tryz.func196 (congrArg some (by kernel_rfl))
  f264 := Eq.trans Tryz.func197 (congrArg some (by kernel_rfl))
  f276 := Eq.trans Tryz.func234 (congrArg some (by kernel_rfl))
  f277 := Eq.trans Tryz.func235 (congrArg some (by kernel_rfl))
  t0 := Tryz.underlying0
  a0 := Tryz.isAgg0
  z0 := Tryz.sizeOf0
  v0 := Tryz.zeroValue0
  t3 := Tryz.underlying3
  a3 := Tryz.isAgg3
  z3 := Tryz.sizeOf3
  v3 := Tryz.zeroValue3
  t4 := Tryz.underlying4
  a4 := Tryz.isAgg4
  z4 := Tryz.sizeOf4
  v4 := Tryz.zeroValue4
  t5 := Tryz.underlying5
  a5 := Tryz.isAgg5
  z5 := Tryz.sizeOf5
  v5 := Tryz.zeroValue5
  t9 := Tryz.underlying9
  a9 := Tryz.isAgg9
  z9 := Tryz.sizeOf9
  v9 := Tryz.zeroValue9
  t20 := Tryz.underlying20
  a20 := Tryz.isAgg20
  z20 := Tryz.sizeOf20
  v20 := Tryz.zeroValue20
  t37 := Tryz.underlying23
  a37 := Tryz.isAgg23
  z37 := Tryz.sizeOf23
  v37 := Tryz.zeroValue23
  t46 := Tryz.underlying39
  a46 := Tryz.isAgg39
  z46 := Tryz.sizeOf39
  v46 := Tryz.zeroValue39
  t51 := Tryz.underlying222
  a51 := Tryz.isAgg222
  z51 := Tryz.sizeOf222
  v51 := Tryz.zeroValue222
  t53 := Tryz.underlying225
  a53 := Tryz.isAgg225
  z53 := Tryz.sizeOf225
  v53 := Tryz.zeroValue225
  t70 := Tryz.underlying209
  a70 := Tryz.isAgg209
  z70 := Tryz.sizeOf209
  v70 := Tryz.zeroValue209
  t72 := Tryz.underlying211
  a72 := Tryz.isAgg211
  z72 := Tryz.sizeOf211
  v72 := Tryz.zeroValue211
  t75 := Tryz.underlying214
  a75 := Tryz.isAgg214
  z75 := Tryz.sizeOf214
  v75 := Tryz.zeroValue214
  t76 := Tryz.underlying215
  a76 := Tryz.isAgg215
  z76 := Tryz.sizeOf215
  v76 := Tryz.zeroValue215
  t109 := Tryz.underlying191
  a109 := Tryz.isAgg191
  z109 := Tryz.sizeOf191
  v109 := Tryz.zeroValue191
  t127 := Tryz.underlying243
  a127 := Tryz.isAgg243
  z127 := Tryz.sizeOf243
  v127 := Tryz.zeroValue243
  t146 := Tryz.underlying223
  a146 := Tryz.isAgg223
  z146 := Tryz.sizeOf223
  v146 := Tryz.zeroValue223
  t148 := Tryz.underlying226
  a148 := Tryz.isAgg226
  z148 := Tryz.sizeOf226
  v148 := Tryz.zeroValue226
  t164 := Tryz.underlying257
  a164 := Tryz.isAgg257
  z164 := Tryz.sizeOf257
  v164 := Tryz.zeroValue257

def lays137_ren : Go.Shelf.Ren :=
{
  f := fun x =>
    match x with
    | 137 => 236
    | 217 => 241
    | 266 => 242
    | n => n,
  t := fun x =>
    match x with
    | 9 => 9
    | 5 => 5
    | 3 => 3
    | n => n,
  g := fun x =>
    have n := x;
    n }

theorem lays137 : Lays.n137 Tryz.prog lays137_ren where
  mixed := by kernel_rfl
  f137 := Eq.trans Tryz.func236 (congrArg some (by kernel_rfl))
  f217 := Eq.trans Tryz.func241 (congrArg some (by kernel_rfl))
  f266 := Eq.trans Tryz.func242 (congrArg some (by kernel_rfl))
  t3 := Tryz.underlying3
  a3 := Tryz.isAgg3
  z3 := Tryz.sizeOf3
  v3 := Tryz.zeroValue3
  t5 := Tryz.underlying5
  a5 := Tryz.isAgg5
  z5 := Tryz.sizeOf5
  v5 := Tryz.zeroValue5
  t9 := Tryz.underlying9
  a9 := Tryz.isAgg9
  z9 := Tryz.sizeOf9
  v9 := Tryz.zeroValue9
end Go.Proofs.YtiodpeekbeahlaaGreatDoor
