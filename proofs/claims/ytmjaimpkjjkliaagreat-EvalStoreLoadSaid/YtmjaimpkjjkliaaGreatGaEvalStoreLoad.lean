/- A fact of the law EvalStoreLoad. -/
import Derived.Test.YtmjaimpkjjkliaaGreatRows
import Derived.Test.YtmjaimpkjjkliaaGreatProg
import Derived.OpenShut
import Derived.JoinedOf
import Derived.KernelRfl
namespace Go.Proofs.YtmjaimpkjjkliaaGreat
theorem g_namedEvalStoreLoad : (Rows.evalStoreLoadRow.named == Tryz.prog.varsNamed 13) = true := by kernel_rfl
theorem g_inPlaceEvalStoreLoad : (Rows.evalStoreLoadRow.inPlace == Tryz.prog.inPlace 13) = true := by kernel_rfl
end Go.Proofs.YtmjaimpkjjkliaaGreat
