/- A fact of the law EvalExamples. -/
import Derived.Test.YtmjaimpkjjkliaaGreatRows
import Derived.Test.YtmjaimpkjjkliaaGreatProg
import Derived.OpenShut
import Derived.JoinedOf
import Derived.KernelRfl
namespace Go.Proofs.YtmjaimpkjjkliaaGreat
theorem g_namedEvalExamples : (Rows.evalExamplesRow.named == Tryz.prog.varsNamed 8) = true := by kernel_rfl
theorem g_inPlaceEvalExamples : (Rows.evalExamplesRow.inPlace == Tryz.prog.inPlace 8) = true := by kernel_rfl
end Go.Proofs.YtmjaimpkjjkliaaGreat
