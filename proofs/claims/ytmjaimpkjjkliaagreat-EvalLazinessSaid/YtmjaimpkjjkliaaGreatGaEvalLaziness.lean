/- A fact of the law EvalLaziness. -/
import Derived.Test.YtmjaimpkjjkliaaGreatRows
import Derived.Test.YtmjaimpkjjkliaaGreatProg
import Derived.OpenShut
import Derived.JoinedOf
import Derived.KernelRfl
namespace Go.Proofs.YtmjaimpkjjkliaaGreat
theorem g_namedEvalLaziness : (Rows.evalLazinessRow.named == Tryz.prog.varsNamed 12) = true := by kernel_rfl
theorem g_inPlaceEvalLaziness : (Rows.evalLazinessRow.inPlace == Tryz.prog.inPlace 12) = true := by kernel_rfl
end Go.Proofs.YtmjaimpkjjkliaaGreat
