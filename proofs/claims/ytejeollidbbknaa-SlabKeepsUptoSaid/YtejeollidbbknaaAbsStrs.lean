/- strings.Repeat, strings.IndexByte, and the search for one byte: contracts by hand over the library's. -/
import Derived.Test.YtejeollidbbknaaLayS
import Derived.Test.YtejeollidbbknaaAbsHandS
import Derived.Shelf.Strings.Repeat
import Derived.Shelf.Strings.Search2
import Derived.Shelf.Small.Strs
namespace Go.Proofs.Ytejeollidbbknaa.Abs
open Go Go.Proofs Go.RowKit Go.Shelf Go.Lib

theorem repeat_extra : Builder.Extra Try.prog lays105_ren where
  sizeBuilder := by kernel_rfl
  liesBuilder := by kernel_rfl
  t5 := Try.underlying5
  a5 := Try.isAgg5
  z5 := Try.sizeOf5
  v5 := Try.zeroValue5
  infoByte := by kernel_rfl
  cellsByte := by kernel_rfl
  sizeByte := by kernel_rfl
  neB5 := by decide

def strings_Repeat : List UInt8 × Int → Option (List UInt8) := fun (s, n) => if 0 ≤ n ∧ n ≤ 140737488355328 ∧ s.length * n.toNat ≤ 140737488355328 then some (Lib.repeatL s n.toNat) else none
def strings_Repeat.ins : Spec := ⟨125, 0, [], [0, 1], (.cons (.v .str) (.cons (.v (.int .i64)) .nil))⟩
def strings_Repeat.outs : List Spec := [⟨125, 0, [], [4], (.cons (.v .str) .nil)⟩]
noncomputable def strings_Repeat.c : Callee' := ⟨40, mkFits strings_Repeat.ins strings_Repeat.outs, mkFun strings_Repeat.ins strings_Repeat.outs strings_Repeat⟩
theorem strings_Repeat.quiet : FunQuiet strings_Repeat.c.F := mkFun_quiet rfl rfl
theorem strings_Repeat.sound : strings_Repeat.c.ok Try.prog := by
  refine ⟨?_, Try.f40, _, Try.func40, rfl, by decide⟩
  change FnSound Try.prog 40 _
  refine sound_plain rfl rfl fun (d : List UInt8 × Int) (r : List UInt8) w h => ?_
  obtain ⟨s, n⟩ := d
  change (if 0 ≤ n ∧ n ≤ 140737488355328 ∧ s.length * n.toNat ≤ 140737488355328 then some (Lib.repeatL s n.toNat) else none) = some r at h
  split at h
  · rename_i hc
    obtain ⟨c, rfl⟩ : ∃ c : Nat, n = c := ⟨n.toNat, by omega⟩
    have e : Lib.repeatL s (c : Int).toNat = r := Option.some.inj h
    subst e
    have := Any.strings_Repeat (P := Try.prog) (ρ := lays105_ren) { lays105 with } repeat_extra ⟨s.toArray⟩ c w (by omega) (by
      have := hc.2.2
      simpa [ByteArray.size] using this)
    exact this
  · cases h



end Go.Proofs.Ytejeollidbbknaa.Abs
