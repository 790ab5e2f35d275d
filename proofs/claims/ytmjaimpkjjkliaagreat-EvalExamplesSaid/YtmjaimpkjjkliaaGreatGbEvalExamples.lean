/- A fact of the law EvalExamples. -/
import Derived.Test.YtmjaimpkjjkliaaGreatRows
import Derived.Test.YtmjaimpkjjkliaaGreatProg
import Derived.OpenShut
import Derived.JoinedOf
import Derived.KernelRfl
namespace Go.Proofs.YtmjaimpkjjkliaaGreat
theorem g_unfollowedEvalExamples : (Rows.evalExamplesRow.unfollowed == Tryz.prog.unfollowed 8) = true := by kernel_rfl
theorem g_recursesEvalExamples : (Rows.evalExamplesRow.recurses == Tryz.prog.recurses 8) = true := by kernel_rfl
end Go.Proofs.YtmjaimpkjjkliaaGreat
