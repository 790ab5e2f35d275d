/- A fact of the law EvalStoreLoad. -/
import Derived.Test.YtmjaimpkjjkliaaGreatRows
import Derived.Test.YtmjaimpkjjkliaaGreatProg
import Derived.OpenShut
import Derived.JoinedOf
import Derived.KernelRfl
namespace Go.Proofs.YtmjaimpkjjkliaaGreat
theorem g_unfollowedEvalStoreLoad : (Rows.evalStoreLoadRow.unfollowed == Tryz.prog.unfollowed 13) = true := by kernel_rfl
theorem g_recursesEvalStoreLoad : (Rows.evalStoreLoadRow.recurses == Tryz.prog.recurses 13) = true := by kernel_rfl
end Go.Proofs.YtmjaimpkjjkliaaGreat
