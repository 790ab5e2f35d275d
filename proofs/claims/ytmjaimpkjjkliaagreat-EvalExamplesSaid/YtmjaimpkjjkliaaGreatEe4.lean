/- The example of chapter 9, by parts: a run, by evaluation. -/
import Derived.Test.YtmjaimpkjjkliaaGreatAmTab
import Derived.Test.YtmjaimpkjjkliaaGreatAmM25
import Derived.Test.YtmjaimpkjjkliaaGreatVb
import Derived.Test.YtmjaimpkjjkliaaGreatEe1
namespace Go.Am.YtmjaimpkjjkliaaGreat
open Go.Proofs
set_option maxRecDepth 100000
theorem ex_run4 : Pu Pg F.eval_Run [exUnit, .str [103], .lit [.int .i64 9] 1, .int .i64 1] (.agg [(.int .i64 3), (.int .i64 0), (.lit [(.int .i64 0)] 1), (.int .i64 0)]) := Pu.eval (fastOK noOra_ok 1000000) (n := 40) (by kernel_rfl)
end Go.Am.YtmjaimpkjjkliaaGreat
