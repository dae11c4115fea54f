/- A deal that isn't there does nothing. -/
import Derived.Test.YtiodpeekbeahlaaGreatDoorDnlE
import Derived.Test.YtiodpeekbeahlaaGreatDoorAbsLoops
import Derived.Test.YtiodpeekbeahlaaGreatDoorAbsLaw
namespace Go.Proofs.YtiodpeekbeahlaaGreatDoor.Abs
open Go

abbrev OpT : Ty := .st (.pair I (.pair I (.pair .str (.pair (.st (.pair I (.pair I I))) (.st (.pair I (.pair I (.pair I (.pair I (.pair (.sl I) (.pair I (.pair I (.pair (.sl (.st (.pair I (.pair I I)))) I)))))))))))))

theorem lives_is : wainwrightlaw12_lives () = some true := wainwrightlaw12_lives.le () true (by kernel_rfl)

theorem wainwrightlaw12_DealNil_row (x0 : OpT.D) (_ : wfD OpT x0) (_ : bulk OpT x0 ≤ 1048576) : wainwrightlaw12_DealNil x0 = some true := by
  unfold wainwrightlaw12_DealNil
  rw [lives_is, Option.bind_some, if_neg (by decide)]
  rfl
end Go.Proofs.YtiodpeekbeahlaaGreatDoor.Abs
