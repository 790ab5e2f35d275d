/- The examples of chapter 7, by the kernel. -/
import Derived.Test.YtmjaimpkjjkliaaAmTab
import Derived.Test.YtmjaimpkjjkliaaAmM25
import Derived.Test.YtmjaimpkjjkliaaVlw
namespace Go.Am.Ytmjaimpkjjkliaa
open Go.Proofs
set_option maxRecDepth 100000

theorem irex : Pu Pg F.fullinglaw7_IRExamples [] (.bool true) := Pu.eval (fastOK noOra_ok 1000000) (n := 40) (by kernel_rfl)
end Go.Am.Ytmjaimpkjjkliaa
