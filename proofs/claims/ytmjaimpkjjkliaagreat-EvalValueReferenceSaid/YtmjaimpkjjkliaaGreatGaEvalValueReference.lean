/- A fact of the law EvalValueReference. -/
import Derived.Test.YtmjaimpkjjkliaaGreatRows
import Derived.Test.YtmjaimpkjjkliaaGreatProg
import Derived.OpenShut
import Derived.JoinedOf
import Derived.KernelRfl
namespace Go.Proofs.YtmjaimpkjjkliaaGreat
theorem g_namedEvalValueReference : (Rows.evalValueReferenceRow.named == Tryz.prog.varsNamed 15) = true := by kernel_rfl
theorem g_inPlaceEvalValueReference : (Rows.evalValueReferenceRow.inPlace == Tryz.prog.inPlace 15) = true := by kernel_rfl
end Go.Proofs.YtmjaimpkjjkliaaGreat
