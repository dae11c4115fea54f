import Derived.Test.YtnbhmifidhoblaaDoorFnsE
namespace Go.Proofs.YtnbhmifidhoblaaDoor.Abs
open Go
theorem lives_is : wainwrightlaw07_lives () = some true := wainwrightlaw07_lives.le () true (by kernel_rfl)
end Go.Proofs.YtnbhmifidhoblaaDoor.Abs
