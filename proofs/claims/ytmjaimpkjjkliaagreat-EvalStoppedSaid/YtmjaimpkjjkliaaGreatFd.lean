/- Facts of the program. -/
import Derived.Test.YtmjaimpkjjkliaaGreatRows
import Derived.Test.YtmjaimpkjjkliaaGreatProg
import Derived.OpenShut
import Derived.JoinedOf
import Derived.KernelRfl
namespace Go.Proofs.YtmjaimpkjjkliaaGreat
theorem f_laid : laidOutB Tryz.prog = true := by kernel_rfl
theorem f_maps : mapsRowed Tryz.prog = true := by kernel_rfl
theorem f_plain : (Rows.evalStoppedRow.plainKeys == Tryz.prog.plainKeys) = true := by kernel_rfl
theorem f_heard : Tryz.prog.stopsHeard = true := by kernel_rfl
end Go.Proofs.YtmjaimpkjjkliaaGreat
