import Derived.Test.YtejeollidbbknaaFnsE
namespace Go.Proofs.Ytejeollidbbknaa.Abs
open Go
theorem lives_is : wainwrightlaw02_lives () = some true := wainwrightlaw02_lives.le () true (by kernel_rfl)
end Go.Proofs.Ytejeollidbbknaa.Abs
