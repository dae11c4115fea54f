/- A slab that isn't there does nothing. -/
import Derived.Test.YtejeollidbbknaaLives
import Derived.Test.YtejeollidbbknaaAbsLoops
namespace Go.Proofs.Ytejeollidbbknaa.Abs
open Go
set_option linter.unusedVariables false
attribute [-simp] List.getD_eq_getElem?_getD

abbrev OpD := Int × Int × List UInt8 × List Bool
def kindS (o : OpD) : Int := IntKind.i64.wrap (Int.tmod (IntKind.u64.wrap o.1) 4)

theorem kind_is (o : OpD) : wainwrightlaw02_Op_kind o = some (kindS o) := rfl

theorem kind_cases (o : OpD) : kindS o = 0 ∨ kindS o = 1 ∨ kindS o = 2 ∨ kindS o = 3 := by
  unfold kindS
  have h0 : 0 ≤ IntKind.u64.wrap o.1 := by
    simp only [IntKind.wrap]
    exact Int.emod_nonneg _ (by decide)
  generalize IntKind.u64.wrap o.1 = n at h0
  rw [Int.tmod_eq_emod_of_nonneg h0, wrap64 (by omega) (by omega)]
  omega

theorem wainwrightlaw02_SlabNil_row (x0 : OpD) (w0 : wfD (.st (.pair I (.pair I (.pair .str (.sl .bool))))) x0)
    (hb : bulk (.st (.pair I (.pair I (.pair .str (.sl .bool))))) x0 ≤ 1048576) : wainwrightlaw02_SlabNil x0 = some true := by
  unfold wainwrightlaw02_SlabNil
  rw [lives_is, Option.bind_some, if_neg (by simp)]
  have hk : wainwrightlaw02_Op_kind (x0.1, x0.2.1, x0.2.2.1, x0.2.2.2) = some (kindS x0) := rfl
  have hd : wainwrightlaw02_does (x0.1, x0.2.1, x0.2.2.1, x0.2.2.2) = some (if kindS x0 = 0 ∨ kindS x0 = 1 then 1 else 0) := by
    unfold wainwrightlaw02_does
    simp only
    rw [hk, Option.bind_some]
    rcases kind_cases x0 with h | h | h | h <;> rw [h] <;> rfl
  rw [hd, Option.bind_some, hk, Option.bind_some]
  rcases kind_cases x0 with h | h | h | h <;> rw [h] <;> rfl
end Go.Proofs.Ytejeollidbbknaa.Abs
