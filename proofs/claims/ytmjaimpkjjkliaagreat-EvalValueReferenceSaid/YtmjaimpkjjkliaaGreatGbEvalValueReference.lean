/- A fact of the law EvalValueReference. -/
import Derived.Test.YtmjaimpkjjkliaaGreatRows
import Derived.Test.YtmjaimpkjjkliaaGreatProg
import Derived.OpenShut
import Derived.JoinedOf
import Derived.KernelRfl
namespace Go.Proofs.YtmjaimpkjjkliaaGreat
theorem g_unfollowedEvalValueReference : (Rows.evalValueReferenceRow.unfollowed == Tryz.prog.unfollowed 15) = true := by kernel_rfl
theorem g_recursesEvalValueReference : (Rows.evalValueReferenceRow.recurses == Tryz.prog.recurses 15) = true := by kernel_rfl
end Go.Proofs.YtmjaimpkjjkliaaGreat
