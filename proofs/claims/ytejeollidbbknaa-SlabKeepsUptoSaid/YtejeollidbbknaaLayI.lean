/- The library's premises at this seat's program: which function, type and variable of the library has which number here. -/
import Derived.Test.YtejeollidbbknaaProg
import Derived.Shelf.SlicesG.Clone
import Derived.KernelRfl
namespace Go.Proofs.Ytejeollidbbknaa
open Go Go.Proofs Go.Shelf
set_option maxRecDepth 1000000

def cloneA_ren : Go.Shelf.Ren :=
{
  f := fun x =>
    match x with
    | 42 => 29
    | n => n,
  t := fun x =>
    match x with
    | 25 => 22
    | 26 => 9
    | 4 => 4
    | n => n,
  g := fun x =>
    have n := x;
    n }

theorem cloneA : SlLaysN.n42 Try.prog cloneA_ren where
  mixed := by kernel_rfl
  f42 := ⟨ "slices.Clone[[]string,string]", of_decide_eq_true (by kernel_rfl), Try.func29.trans (congrArg some (by kernel_rfl))⟩
  t4 := Try.underlying4
  a4 := Try.isAgg4
  z4 := Try.sizeOf4
  v4 := Try.zeroValue4
  t25 := Try.underlying22
  a25 := Try.isAgg22
  z25 := Try.sizeOf22
  v25 := Try.zeroValue22
  t26 := Try.underlying9
  a26 := Try.isAgg9
  z26 := Try.sizeOf9
  v26 := Try.zeroValue9
  i26 := by kernel_rfl
end Go.Proofs.Ytejeollidbbknaa
