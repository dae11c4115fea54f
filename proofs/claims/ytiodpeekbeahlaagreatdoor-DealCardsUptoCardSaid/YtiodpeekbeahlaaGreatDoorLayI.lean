/- The library's premises at this seat's program: which function, type and variable of the library has which number here. -/
import Derived.Test.YtiodpeekbeahlaaGreatDoorProg
import Derived.Shelf.SlicesG.Clone
import Derived.KernelRfl
namespace Go.Proofs.YtiodpeekbeahlaaGreatDoor
open Go Go.Proofs Go.Shelf
set_option maxRecDepth 1000000

def cloneA_ren : Go.Shelf.Ren :=
{
  f := fun x =>
    match x with
    | 42 => 79
    | n => n,
  t := fun x =>
    match x with
    | 25 => 42
    | 26 => 9
    | 4 => 4
    | n => n,
  g := fun x =>
    have n := x;
    n }

theorem cloneA : SlLaysN.n42 Tryz.prog cloneA_ren where
  mixed := by kernel_rfl
  f42 := ⟨ "slices.Clone[[]string,string]", of_decide_eq_true (by kernel_rfl), Tryz.func79.trans (congrArg some (by kernel_rfl))⟩
  t4 := Tryz.underlying4
  a4 := Tryz.isAgg4
  z4 := Tryz.sizeOf4
  v4 := Tryz.zeroValue4
  t25 := Tryz.underlying42
  a25 := Tryz.isAgg42
  z25 := Tryz.sizeOf42
  v25 := Tryz.zeroValue42
  t26 := Tryz.underlying9
  a26 := Tryz.isAgg9
  z26 := Tryz.sizeOf9
  v26 := Tryz.zeroValue9
  i26 := by kernel_rfl
end Go.Proofs.YtiodpeekbeahlaaGreatDoor
