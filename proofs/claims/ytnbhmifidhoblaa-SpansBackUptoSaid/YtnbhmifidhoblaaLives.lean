import Derived.Test.YtnbhmifidhoblaaFnsE
namespace Go.Proofs.Ytnbhmifidhoblaa.Abs
open Go
theorem lives_is : wainwrightlaw04_lives () = some true := wainwrightlaw04_lives.le () true (by kernel_rfl)
end Go.Proofs.Ytnbhmifidhoblaa.Abs
