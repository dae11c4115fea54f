/- The closed facts of the program that each row asks. -/
import Derived.Test.YtlbammfnkphajaaGreatDoorRows
import Derived.JoinedCond
namespace Go.Proofs.YtlbammfnkphajaaGreatDoor.Abs
open Go
set_option maxRecDepth 100000
theorem band {a b : Bool} (ha : a = true) (hb : b = true) : (a && b) = true := by rw [ha, hb]; rfl
theorem cl_laid : laidOutB Tryz.prog = true := by kernel_rfl
theorem cl_maps : mapsRowed Tryz.prog = true := by kernel_rfl
theorem cl_stops : Tryz.prog.stops = [] := by kernel_rfl
theorem cl_knobs : Tryz.prog.stopKnobs = [] := by kernel_rfl
theorem cl_keys : Tryz.prog.plainKeys = true := by kernel_rfl
theorem cl_heard : Tryz.prog.stopsHeard = true := by kernel_rfl
theorem cl_enter : Tryz.prog.mayEnter = true := by kernel_rfl
end Go.Proofs.YtlbammfnkphajaaGreatDoor.Abs
