/- A fact of the law EvalStopped. -/
import Derived.Test.YtmjaimpkjjkliaaGreatRows
import Derived.Test.YtmjaimpkjjkliaaGreatProg
import Derived.OpenShut
import Derived.JoinedOf
import Derived.KernelRfl
namespace Go.Proofs.YtmjaimpkjjkliaaGreat
theorem g_unfollowedEvalStopped : (Rows.evalStoppedRow.unfollowed == Tryz.prog.unfollowed 10) = true := by kernel_rfl
theorem g_recursesEvalStopped : (Rows.evalStoppedRow.recurses == Tryz.prog.recurses 10) = true := by kernel_rfl
end Go.Proofs.YtmjaimpkjjkliaaGreat
