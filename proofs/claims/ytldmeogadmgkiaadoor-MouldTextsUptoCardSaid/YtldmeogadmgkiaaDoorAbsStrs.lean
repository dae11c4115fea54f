/- strings.Repeat, strings.IndexByte, and the search for one byte: contracts by hand over the library's. -/
import Derived.Test.YtldmeogadmgkiaaDoorLayS
import Derived.Test.YtldmeogadmgkiaaDoorAbsHandS
import Derived.Shelf.Strings.Repeat
import Derived.Shelf.Strings.Search2
import Derived.Shelf.Small.Strs
namespace Go.Proofs.YtldmeogadmgkiaaDoor.Abs
open Go Go.Proofs Go.RowKit Go.Shelf Go.Lib

theorem repeat_extra : Builder.Extra Tryd.prog lays105_ren where
  sizeBuilder := by kernel_rfl
  liesBuilder := by kernel_rfl
  t5 := Tryd.underlying5
  a5 := Tryd.isAgg5
  z5 := Tryd.sizeOf5
  v5 := Tryd.zeroValue5
  infoByte := by kernel_rfl
  cellsByte := by kernel_rfl
  sizeByte := by kernel_rfl
  neB5 := by decide

def strings_Repeat : List UInt8 × Int → Option (List UInt8) := fun (s, n) => if 0 ≤ n ∧ n ≤ 140737488355328 ∧ s.length * n.toNat ≤ 140737488355328 then some (Lib.repeatL s n.toNat) else none
def strings_Repeat.ins : Spec := ⟨125, 0, [], [0, 1], (.cons (.v .str) (.cons (.v (.int .i64)) .nil))⟩
def strings_Repeat.outs : List Spec := [⟨125, 0, [], [4], (.cons (.v .str) .nil)⟩]
noncomputable def strings_Repeat.c : Callee' := ⟨18, mkFits strings_Repeat.ins strings_Repeat.outs, mkFun strings_Repeat.ins strings_Repeat.outs strings_Repeat⟩
theorem strings_Repeat.quiet : FunQuiet strings_Repeat.c.F := mkFun_quiet rfl rfl
theorem strings_Repeat.sound : strings_Repeat.c.ok Tryd.prog := by
  refine ⟨?_, Tryd.f18, _, Tryd.func18, rfl, by decide⟩
  change FnSound Tryd.prog 18 _
  refine sound_plain rfl rfl fun (d : List UInt8 × Int) (r : List UInt8) w h => ?_
  obtain ⟨s, n⟩ := d
  change (if 0 ≤ n ∧ n ≤ 140737488355328 ∧ s.length * n.toNat ≤ 140737488355328 then some (Lib.repeatL s n.toNat) else none) = some r at h
  split at h
  · rename_i hc
    obtain ⟨c, rfl⟩ : ∃ c : Nat, n = c := ⟨n.toNat, by omega⟩
    have e : Lib.repeatL s (c : Int).toNat = r := Option.some.inj h
    subst e
    have := Any.strings_Repeat (P := Tryd.prog) (ρ := lays105_ren) { lays105 with } repeat_extra ⟨s.toArray⟩ c w (by omega) (by
      have := hc.2.2
      simpa [ByteArray.size] using this)
    exact this
  · cases h

def strings_IndexByte : List UInt8 × Int → Option Int := fun (s, c) => if s.length ≤ s.length then some (Lib.indexByte s c.toNat.toUInt8) else none
def strings_IndexByte.ins : Spec := ⟨8, 0, [], [0, 1], (.cons (.v .str) (.cons (.v (.int .u8)) .nil))⟩
def strings_IndexByte.outs : List Spec := [⟨8, 0, [], [4], (.cons (.v (.int .i64)) .nil)⟩]
noncomputable def strings_IndexByte.c : Callee' := ⟨15, mkFits strings_IndexByte.ins strings_IndexByte.outs, mkFun strings_IndexByte.ins strings_IndexByte.outs strings_IndexByte⟩
theorem strings_IndexByte.quiet : FunQuiet strings_IndexByte.c.F := mkFun_quiet rfl rfl
theorem strings_IndexByte.sound : strings_IndexByte.c.ok Tryd.prog := by
  refine ⟨?_, Tryd.f15, _, Tryd.func15, rfl, by decide⟩
  change FnSound Tryd.prog 15 _
  refine sound_plain rfl rfl fun (d : List UInt8 × Int) (r : Int) w h => ?_
  obtain ⟨s, c⟩ := d
  change (if s.length ≤ s.length then some (Lib.indexByte s c.toNat.toUInt8) else none) = some r at h
  rw [if_pos (Nat.le_refl _)] at h
  have e : Lib.indexByte s c.toNat.toUInt8 = r := Option.some.inj h
  subst e
  have := Any.strings_IndexByte (P := Tryd.prog) (ρ := lays137_ren) { lays137 with } ⟨s.toArray⟩ c w
  refine this.mono ?_
  rintro e w' ⟨rfl, rfl⟩
  exact ⟨rfl, Below.refl _ _⟩

def stringslite_Index : List UInt8 × List UInt8 → Option Int := fun (s, t) => if t.length = 1 then some (Lib.indexByte s (t.getD 0 0)) else none
def stringslite_Index.ins : Spec := ⟨143, 0, [], [0, 1], (.cons (.v .str) (.cons (.v .str) .nil))⟩
def stringslite_Index.outs : List Spec := [⟨143, 0, [], [4], (.cons (.v (.int .i64)) .nil)⟩]
noncomputable def stringslite_Index.c : Callee' := ⟨36, mkFits stringslite_Index.ins stringslite_Index.outs, mkFun stringslite_Index.ins stringslite_Index.outs stringslite_Index⟩
theorem stringslite_Index.quiet : FunQuiet stringslite_Index.c.F := mkFun_quiet rfl rfl
theorem stringslite_Index.sound : stringslite_Index.c.ok Tryd.prog := by
  refine ⟨?_, Tryd.f36, _, Tryd.func36, rfl, by decide⟩
  change FnSound Tryd.prog 36 _
  refine sound_plain rfl rfl fun (d : List UInt8 × List UInt8) (r : Int) w h => ?_
  obtain ⟨s, t⟩ := d
  change (if t.length = 1 then some (Lib.indexByte s (t.getD 0 0)) else none) = some r at h
  split at h
  · rename_i hc
    match t, hc with
    | [c], _ =>
      have e : Lib.indexByte s c = r := Option.some.inj h
      subst e
      have := Any.stringslite_Index_one (P := Tryd.prog) (ρ := lays219_ren) { lays219 with } ⟨s.toArray⟩ c w
      refine this.mono ?_
      rintro e w' ⟨rfl, rfl⟩
      exact ⟨rfl, Below.refl _ _⟩
  · cases h
end Go.Proofs.YtldmeogadmgkiaaDoor.Abs
