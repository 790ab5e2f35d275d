/- A fact of the law EvalLaziness. -/
import Derived.Test.YtmjaimpkjjkliaaGreatRows
import Derived.Test.YtmjaimpkjjkliaaGreatProg
import Derived.OpenShut
import Derived.JoinedOf
import Derived.KernelRfl
namespace Go.Proofs.YtmjaimpkjjkliaaGreat
theorem g_unfollowedEvalLaziness : (Rows.evalLazinessRow.unfollowed == Tryz.prog.unfollowed 12) = true := by kernel_rfl
theorem g_recursesEvalLaziness : (Rows.evalLazinessRow.recurses == Tryz.prog.recurses 12) = true := by kernel_rfl
end Go.Proofs.YtmjaimpkjjkliaaGreat
