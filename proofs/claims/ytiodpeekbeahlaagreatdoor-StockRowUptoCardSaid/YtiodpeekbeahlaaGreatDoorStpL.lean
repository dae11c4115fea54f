import Derived.Test.YtiodpeekbeahlaaGreatDoorStpE
namespace Go.Proofs.YtiodpeekbeahlaaGreatDoor.Abs
open Go
theorem lives_is : wainwrightlaw13_lives () = some true := wainwrightlaw13_lives.le () true (by kernel_rfl)
end Go.Proofs.YtiodpeekbeahlaaGreatDoor.Abs
