/- strings.Repeat, strings.IndexByte, and the search for one byte: contracts by hand over the library's. -/
import Derived.Test.YtlbammfnkphajaaGreatDoorLayS
import Derived.Test.YtlbammfnkphajaaGreatDoorAbsHandS
import Derived.Shelf.Strings.Repeat
import Derived.Shelf.Strings.Search2
import Derived.Shelf.Small.Strs
namespace Go.Proofs.YtlbammfnkphajaaGreatDoor.Abs
open Go Go.Proofs Go.RowKit Go.Shelf Go.Lib

theorem repeat_extra : Builder.Extra Tryz.prog lays105_ren where
  sizeBuilder := by kernel_rfl
  liesBuilder := by kernel_rfl
  t5 := Tryz.underlying5
  a5 := Tryz.isAgg5
  z5 := Tryz.sizeOf5
  v5 := Tryz.zeroValue5
  infoByte := by kernel_rfl
  cellsByte := by kernel_rfl
  sizeByte := by kernel_rfl
  neB5 := by decide

def strings_Repeat : List UInt8 × Int → Option (List UInt8) := fun (s, n) => if 0 ≤ n ∧ n ≤ 140737488355328 ∧ s.length * n.toNat ≤ 140737488355328 then some (Lib.repeatL s n.toNat) else none
def strings_Repeat.ins : Spec := ⟨125, 0, [], [0, 1], (.cons (.v .str) (.cons (.v (.int .i64)) .nil))⟩
def strings_Repeat.outs : List Spec := [⟨125, 0, [], [4], (.cons (.v .str) .nil)⟩]
noncomputable def strings_Repeat.c : Callee' := ⟨101, mkFits strings_Repeat.ins strings_Repeat.outs, mkFun strings_Repeat.ins strings_Repeat.outs strings_Repeat, mkFun_nat _ _ _⟩
theorem strings_Repeat.quiet : FunQuiet strings_Repeat.c.F := mkFun_quiet rfl rfl
theorem strings_Repeat.sound : strings_Repeat.c.ok Tryz.prog := by
  refine ⟨?_, Tryz.f101, _, Tryz.func101, rfl, by decide⟩
  change FnSound Tryz.prog 101 _
  refine sound_plain rfl rfl fun (d : List UInt8 × Int) (r : List UInt8) w h => ?_
  obtain ⟨s, n⟩ := d
  change (if 0 ≤ n ∧ n ≤ 140737488355328 ∧ s.length * n.toNat ≤ 140737488355328 then some (Lib.repeatL s n.toNat) else none) = some r at h
  split at h
  · rename_i hc
    obtain ⟨c, rfl⟩ : ∃ c : Nat, n = c := ⟨n.toNat, by omega⟩
    have e : Lib.repeatL s (c : Int).toNat = r := Option.some.inj h
    subst e
    have := Any.strings_Repeat (P := Tryz.prog) (ρ := lays105_ren) { lays105 with } repeat_extra ⟨s.toArray⟩ c w (by omega) (by
      have := hc.2.2
      simpa [ByteArray.size] using this)
    exact this
  · cases h

def strings_IndexByte : List UInt8 × Int → Option Int := fun (s, c) => if s.length ≤ s.length then some (Lib.indexByte s c.toNat.toUInt8) else none
def strings_IndexByte.ins : Spec := ⟨8, 0, [], [0, 1], (.cons (.v .str) (.cons (.v (.int .u8)) .nil))⟩
def strings_IndexByte.outs : List Spec := [⟨8, 0, [], [4], (.cons (.v (.int .i64)) .nil)⟩]
noncomputable def strings_IndexByte.c : Callee' := ⟨221, mkFits strings_IndexByte.ins strings_IndexByte.outs, mkFun strings_IndexByte.ins strings_IndexByte.outs strings_IndexByte, mkFun_nat _ _ _⟩
theorem strings_IndexByte.quiet : FunQuiet strings_IndexByte.c.F := mkFun_quiet rfl rfl
theorem strings_IndexByte.sound : strings_IndexByte.c.ok Tryz.prog := by
  refine ⟨?_, Tryz.f221, _, Tryz.func221, rfl, by decide⟩
  change FnSound Tryz.prog 221 _
  refine sound_plain rfl rfl fun (d : List UInt8 × Int) (r : Int) w h => ?_
  obtain ⟨s, c⟩ := d
  change (if s.length ≤ s.length then some (Lib.indexByte s c.toNat.toUInt8) else none) = some r at h
  rw [if_pos (Nat.le_refl _)] at h
  have e : Lib.indexByte s c.toNat.toUInt8 = r := Option.some.inj h
  subst e
  have := Any.strings_IndexByte (P := Tryz.prog) (ρ := lays137_ren) { lays137 with } ⟨s.toArray⟩ c w
  refine this.mono ?_
  rintro e w' ⟨rfl, rfl⟩
  exact ⟨rfl, Below.refl _ _⟩


end Go.Proofs.YtlbammfnkphajaaGreatDoor.Abs
