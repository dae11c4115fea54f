import Derived.Test.YtiodpeekbeahlaaGreatDoorFnsE
namespace Go.Proofs.YtiodpeekbeahlaaGreatDoor.Abs
open Go
theorem lives_is : wainwrightlaw11_lives () = some true := wainwrightlaw11_lives.le () true (by kernel_rfl)
end Go.Proofs.YtiodpeekbeahlaaGreatDoor.Abs
