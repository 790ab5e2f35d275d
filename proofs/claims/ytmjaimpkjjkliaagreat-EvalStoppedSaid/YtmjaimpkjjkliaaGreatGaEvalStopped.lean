/- A fact of the law EvalStopped. -/
import Derived.Test.YtmjaimpkjjkliaaGreatRows
import Derived.Test.YtmjaimpkjjkliaaGreatProg
import Derived.OpenShut
import Derived.JoinedOf
import Derived.KernelRfl
namespace Go.Proofs.YtmjaimpkjjkliaaGreat
theorem g_namedEvalStopped : (Rows.evalStoppedRow.named == Tryz.prog.varsNamed 10) = true := by kernel_rfl
theorem g_inPlaceEvalStopped : (Rows.evalStoppedRow.inPlace == Tryz.prog.inPlace 10) = true := by kernel_rfl
end Go.Proofs.YtmjaimpkjjkliaaGreat
