/-
  NARROWER THAN 'FOR EVERY INPUT', by the rows' own cells (each row's printed sentence says how): LowerReference: loops.
  DERIVED. THE GIVEN ROWS OF THIS SEAT. 14 by the template 'for every input the law returns true; each argument reads behind the call as it read before'; 0 by the template 'total and deterministic' (their statements: YtmjaimpkjjkliaaGreatTotals.lean).
  GIVEN WITH THE SEED: the statements are not yours to turn. If you find one false, say at which input.
  Laid BY PROGRAM, IN A SANDBOX (cutbox-rows.mjs): the forced cells as the released guide's own fill.sh prints them over the translation 4b48eed0c40a3c37… (all of the seat's roots in one cut). By AI agents, Wed Nov 11 2026. No macro, syntax, notation, axiom, sorry.
-/
import Derived.Test.YtmjaimpkjjkliaaGreatChecked
import GoSem.Claim
import GoSem.ClaimJoined
import GoSem.ClaimMapViews
import Derived.JoinedTies
import Derived.KernelRfl
namespace Go.Proofs.YtmjaimpkjjkliaaGreat
/- THE CELL 'sum', in the pinned program and in every row, IS THE sha256 OF THE DUMP (.gsa) THAT YtmjaimpkjjkliaaGreatProg.lean LOADS. Nothing in Lean hashes anything: it is a label: what it is worth is what the hold of that sum in a sandbox is worth. -/
noncomputable def Tryz.pinned : Pinned := { name := "ytmjaimpkjjkliaagreat", sum := "4b48eed0c40a3c378121f83d10760f4d75585cf78828337d9e07e8b7ff55d256", checked := Tryz.checked }
namespace Rows
def none {H : Type} : Left H := { results := [], args := [] }

/-- 'fullinglaw8.LowerReference': WHATEVER THE INPUT: true; the input reads as it did. -/
def lowerReferenceSpec : ChangeSpec := { name := "lowerReference", fn := fun _ => fun
  | [d1, d2, d3, d4] => { results := [.lit (.bool true)], args := [d1, d2, d3, d4] }
  | _ => none }
def lowerReferenceRow : OpenClaim := { program := "ytmjaimpkjjkliaagreat", sum := "4b48eed0c40a3c378121f83d10760f4d75585cf78828337d9e07e8b7ff55d256", func := "fulling/fullinglaw8.LowerReference", spec := "lowerReference", unfollowed := true, recurses := true, loops := true, apart := false }
def LowerReferenceSaid : Prop := lowerReferenceRow.holds Tryz.pinned (OpenSpec.ofChange lowerReferenceSpec)

/-- ITS FALSE NEIGHBOUR: 'it returns false'. Refute it at one input. -/
def lowerReferenceWrong : ChangeSpec := { name := "lowerReference", fn := fun _ => fun
  | [d1, d2, d3, d4] => { results := [.lit (.bool false)], args := [d1, d2, d3, d4] }
  | _ => none }
def LowerReferenceWrongFalsely : Prop := lowerReferenceRow.holds Tryz.pinned (OpenSpec.ofChange lowerReferenceWrong)

/-- 'fullinglaw8.LowerLoops': WHATEVER THE INPUT: true; the input reads as it did. -/
def lowerLoopsSpec : ChangeSpec := { name := "lowerLoops", fn := fun _ => fun
  | [d] => { results := [.lit (.bool true)], args := [d] }
  | _ => none }
def lowerLoopsRow : OpenClaim := { program := "ytmjaimpkjjkliaagreat", sum := "4b48eed0c40a3c378121f83d10760f4d75585cf78828337d9e07e8b7ff55d256", func := "fulling/fullinglaw8.LowerLoops", spec := "lowerLoops", unfollowed := true, recurses := true, apart := false }
def LowerLoopsSaid : Prop := lowerLoopsRow.holds Tryz.pinned (OpenSpec.ofChange lowerLoopsSpec)

/-- ITS FALSE NEIGHBOUR: 'it returns false'. Refute it at one input. -/
def lowerLoopsWrong : ChangeSpec := { name := "lowerLoops", fn := fun _ => fun
  | [d] => { results := [.lit (.bool false)], args := [d] }
  | _ => none }
def LowerLoopsWrongFalsely : Prop := lowerLoopsRow.holds Tryz.pinned (OpenSpec.ofChange lowerLoopsWrong)

/-- 'fullinglaw7.IRReference': WHATEVER THE INPUT: true; the input reads as it did. -/
def iRReferenceSpec : ChangeSpec := { name := "iRReference", fn := fun _ => fun
  | [d1, d2, d3, d4, d5, d6] => { results := [.lit (.bool true)], args := [d1, d2, d3, d4, d5, d6] }
  | _ => none }
def iRReferenceRow : OpenClaim := { program := "ytmjaimpkjjkliaagreat", sum := "4b48eed0c40a3c378121f83d10760f4d75585cf78828337d9e07e8b7ff55d256", func := "fulling/fullinglaw7.IRReference", spec := "iRReference", unfollowed := true, recurses := true, apart := false }
def IRReferenceSaid : Prop := iRReferenceRow.holds Tryz.pinned (OpenSpec.ofChange iRReferenceSpec)

/-- ITS FALSE NEIGHBOUR: 'it returns false'. Refute it at one input. -/
def iRReferenceWrong : ChangeSpec := { name := "iRReference", fn := fun _ => fun
  | [d1, d2, d3, d4, d5, d6] => { results := [.lit (.bool false)], args := [d1, d2, d3, d4, d5, d6] }
  | _ => none }
def IRReferenceWrongFalsely : Prop := iRReferenceRow.holds Tryz.pinned (OpenSpec.ofChange iRReferenceWrong)

/-- 'fullinglaw7.IRValidReference': WHATEVER THE INPUT: true; the input reads as it did. -/
def iRValidReferenceSpec : ChangeSpec := { name := "iRValidReference", fn := fun _ => fun
  | [d1, d2, d3, d4] => { results := [.lit (.bool true)], args := [d1, d2, d3, d4] }
  | _ => none }
def iRValidReferenceRow : OpenClaim := { program := "ytmjaimpkjjkliaagreat", sum := "4b48eed0c40a3c378121f83d10760f4d75585cf78828337d9e07e8b7ff55d256", func := "fulling/fullinglaw7.IRValidReference", spec := "iRValidReference", unfollowed := true, recurses := true, apart := false }
def IRValidReferenceSaid : Prop := iRValidReferenceRow.holds Tryz.pinned (OpenSpec.ofChange iRValidReferenceSpec)

/-- ITS FALSE NEIGHBOUR: 'it returns false'. Refute it at one input. -/
def iRValidReferenceWrong : ChangeSpec := { name := "iRValidReference", fn := fun _ => fun
  | [d1, d2, d3, d4] => { results := [.lit (.bool false)], args := [d1, d2, d3, d4] }
  | _ => none }
def IRValidReferenceWrongFalsely : Prop := iRValidReferenceRow.holds Tryz.pinned (OpenSpec.ofChange iRValidReferenceWrong)

/-- 'fullinglaw8.LowerValid': WHATEVER THE INPUT: true; the input reads as it did. -/
def lowerValidSpec : ChangeSpec := { name := "lowerValid", fn := fun _ => fun
  | [d1, d2, d3] => { results := [.lit (.bool true)], args := [d1, d2, d3] }
  | _ => none }
def lowerValidRow : OpenClaim := { program := "ytmjaimpkjjkliaagreat", sum := "4b48eed0c40a3c378121f83d10760f4d75585cf78828337d9e07e8b7ff55d256", func := "fulling/fullinglaw8.LowerValid", spec := "lowerValid", unfollowed := true, recurses := true, apart := false }
def LowerValidSaid : Prop := lowerValidRow.holds Tryz.pinned (OpenSpec.ofChange lowerValidSpec)

/-- ITS FALSE NEIGHBOUR: 'it returns false'. Refute it at one input. -/
def lowerValidWrong : ChangeSpec := { name := "lowerValid", fn := fun _ => fun
  | [d1, d2, d3] => { results := [.lit (.bool false)], args := [d1, d2, d3] }
  | _ => none }
def LowerValidWrongFalsely : Prop := lowerValidRow.holds Tryz.pinned (OpenSpec.ofChange lowerValidWrong)

/-- 'fullinglaw9.EvalExamples': WHATEVER THE INPUT: true; the input reads as it did. -/
def evalExamplesSpec : ChangeSpec := { name := "evalExamples", fn := fun _ => fun
  | [] => { results := [.lit (.bool true)], args := [] }
  | _ => none }
def evalExamplesRow : OpenClaim := { program := "ytmjaimpkjjkliaagreat", sum := "4b48eed0c40a3c378121f83d10760f4d75585cf78828337d9e07e8b7ff55d256", func := "fulling/fullinglaw9.EvalExamples", spec := "evalExamples", unfollowed := true, recurses := true, apart := false }
def EvalExamplesSaid : Prop := evalExamplesRow.holds Tryz.pinned (OpenSpec.ofChange evalExamplesSpec)

/-- ITS FALSE NEIGHBOUR: 'it returns false'. Refute it at one input. -/
def evalExamplesWrong : ChangeSpec := { name := "evalExamples", fn := fun _ => fun
  | [] => { results := [.lit (.bool false)], args := [] }
  | _ => none }
def EvalExamplesWrongFalsely : Prop := evalExamplesRow.holds Tryz.pinned (OpenSpec.ofChange evalExamplesWrong)

/-- 'fullinglaw9.EvalDeadNodes': WHATEVER THE INPUT: true; the input reads as it did. -/
def evalDeadNodesSpec : ChangeSpec := { name := "evalDeadNodes", fn := fun _ => fun
  | [d1, d2, d3, d4, d5, d6] => { results := [.lit (.bool true)], args := [d1, d2, d3, d4, d5, d6] }
  | _ => none }
def evalDeadNodesRow : OpenClaim := { program := "ytmjaimpkjjkliaagreat", sum := "4b48eed0c40a3c378121f83d10760f4d75585cf78828337d9e07e8b7ff55d256", func := "fulling/fullinglaw9.EvalDeadNodes", spec := "evalDeadNodes", unfollowed := true, recurses := true, apart := false }
def EvalDeadNodesSaid : Prop := evalDeadNodesRow.holds Tryz.pinned (OpenSpec.ofChange evalDeadNodesSpec)

/-- ITS FALSE NEIGHBOUR: 'it returns false'. Refute it at one input. -/
def evalDeadNodesWrong : ChangeSpec := { name := "evalDeadNodes", fn := fun _ => fun
  | [d1, d2, d3, d4, d5, d6] => { results := [.lit (.bool false)], args := [d1, d2, d3, d4, d5, d6] }
  | _ => none }
def EvalDeadNodesWrongFalsely : Prop := evalDeadNodesRow.holds Tryz.pinned (OpenSpec.ofChange evalDeadNodesWrong)

/-- 'fullinglaw9.EvalStopped': WHATEVER THE INPUT: true; the input reads as it did. -/
def evalStoppedSpec : ChangeSpec := { name := "evalStopped", fn := fun _ => fun
  | [d1, d2, d3, d4] => { results := [.lit (.bool true)], args := [d1, d2, d3, d4] }
  | _ => none }
def evalStoppedRow : OpenClaim := { program := "ytmjaimpkjjkliaagreat", sum := "4b48eed0c40a3c378121f83d10760f4d75585cf78828337d9e07e8b7ff55d256", func := "fulling/fullinglaw9.EvalStopped", spec := "evalStopped", unfollowed := true, recurses := true, apart := false }
def EvalStoppedSaid : Prop := evalStoppedRow.holds Tryz.pinned (OpenSpec.ofChange evalStoppedSpec)

/-- ITS FALSE NEIGHBOUR: 'it returns false'. Refute it at one input. -/
def evalStoppedWrong : ChangeSpec := { name := "evalStopped", fn := fun _ => fun
  | [d1, d2, d3, d4] => { results := [.lit (.bool false)], args := [d1, d2, d3, d4] }
  | _ => none }
def EvalStoppedWrongFalsely : Prop := evalStoppedRow.holds Tryz.pinned (OpenSpec.ofChange evalStoppedWrong)

/-- 'fullinglaw9.EvalFuelMonotonic': WHATEVER THE INPUT: true; the input reads as it did. -/
def evalFuelMonotonicSpec : ChangeSpec := { name := "evalFuelMonotonic", fn := fun _ => fun
  | [d1, d2, d3, d4, d5, d6] => { results := [.lit (.bool true)], args := [d1, d2, d3, d4, d5, d6] }
  | _ => none }
def evalFuelMonotonicRow : OpenClaim := { program := "ytmjaimpkjjkliaagreat", sum := "4b48eed0c40a3c378121f83d10760f4d75585cf78828337d9e07e8b7ff55d256", func := "fulling/fullinglaw9.EvalFuelMonotonic", spec := "evalFuelMonotonic", unfollowed := true, recurses := true, apart := false }
def EvalFuelMonotonicSaid : Prop := evalFuelMonotonicRow.holds Tryz.pinned (OpenSpec.ofChange evalFuelMonotonicSpec)

/-- ITS FALSE NEIGHBOUR: 'it returns false'. Refute it at one input. -/
def evalFuelMonotonicWrong : ChangeSpec := { name := "evalFuelMonotonic", fn := fun _ => fun
  | [d1, d2, d3, d4, d5, d6] => { results := [.lit (.bool false)], args := [d1, d2, d3, d4, d5, d6] }
  | _ => none }
def EvalFuelMonotonicWrongFalsely : Prop := evalFuelMonotonicRow.holds Tryz.pinned (OpenSpec.ofChange evalFuelMonotonicWrong)

/-- 'fullinglaw9.EvalLaziness': WHATEVER THE INPUT: true; the input reads as it did. -/
def evalLazinessSpec : ChangeSpec := { name := "evalLaziness", fn := fun _ => fun
  | [d1, d2, d3] => { results := [.lit (.bool true)], args := [d1, d2, d3] }
  | _ => none }
def evalLazinessRow : OpenClaim := { program := "ytmjaimpkjjkliaagreat", sum := "4b48eed0c40a3c378121f83d10760f4d75585cf78828337d9e07e8b7ff55d256", func := "fulling/fullinglaw9.EvalLaziness", spec := "evalLaziness", unfollowed := true, recurses := true, apart := false }
def EvalLazinessSaid : Prop := evalLazinessRow.holds Tryz.pinned (OpenSpec.ofChange evalLazinessSpec)

/-- ITS FALSE NEIGHBOUR: 'it returns false'. Refute it at one input. -/
def evalLazinessWrong : ChangeSpec := { name := "evalLaziness", fn := fun _ => fun
  | [d1, d2, d3] => { results := [.lit (.bool false)], args := [d1, d2, d3] }
  | _ => none }
def EvalLazinessWrongFalsely : Prop := evalLazinessRow.holds Tryz.pinned (OpenSpec.ofChange evalLazinessWrong)

/-- 'fullinglaw9.EvalStoreLoad': WHATEVER THE INPUT: true; the input reads as it did. -/
def evalStoreLoadSpec : ChangeSpec := { name := "evalStoreLoad", fn := fun _ => fun
  | [d1, d2, d3, d4, d5, d6] => { results := [.lit (.bool true)], args := [d1, d2, d3, d4, d5, d6] }
  | _ => none }
def evalStoreLoadRow : OpenClaim := { program := "ytmjaimpkjjkliaagreat", sum := "4b48eed0c40a3c378121f83d10760f4d75585cf78828337d9e07e8b7ff55d256", func := "fulling/fullinglaw9.EvalStoreLoad", spec := "evalStoreLoad", unfollowed := true, recurses := true, apart := false }
def EvalStoreLoadSaid : Prop := evalStoreLoadRow.holds Tryz.pinned (OpenSpec.ofChange evalStoreLoadSpec)

/-- ITS FALSE NEIGHBOUR: 'it returns false'. Refute it at one input. -/
def evalStoreLoadWrong : ChangeSpec := { name := "evalStoreLoad", fn := fun _ => fun
  | [d1, d2, d3, d4, d5, d6] => { results := [.lit (.bool false)], args := [d1, d2, d3, d4, d5, d6] }
  | _ => none }
def EvalStoreLoadWrongFalsely : Prop := evalStoreLoadRow.holds Tryz.pinned (OpenSpec.ofChange evalStoreLoadWrong)

/-- 'fullinglaw9.EvalPure': WHATEVER THE INPUT: true; the input reads as it did. -/
def evalPureSpec : ChangeSpec := { name := "evalPure", fn := fun _ => fun
  | [d1, d2, d3, d4, d5, d6] => { results := [.lit (.bool true)], args := [d1, d2, d3, d4, d5, d6] }
  | _ => none }
def evalPureRow : OpenClaim := { program := "ytmjaimpkjjkliaagreat", sum := "4b48eed0c40a3c378121f83d10760f4d75585cf78828337d9e07e8b7ff55d256", func := "fulling/fullinglaw9.EvalPure", spec := "evalPure", unfollowed := true, recurses := true, apart := false }
def EvalPureSaid : Prop := evalPureRow.holds Tryz.pinned (OpenSpec.ofChange evalPureSpec)

/-- ITS FALSE NEIGHBOUR: 'it returns false'. Refute it at one input. -/
def evalPureWrong : ChangeSpec := { name := "evalPure", fn := fun _ => fun
  | [d1, d2, d3, d4, d5, d6] => { results := [.lit (.bool false)], args := [d1, d2, d3, d4, d5, d6] }
  | _ => none }
def EvalPureWrongFalsely : Prop := evalPureRow.holds Tryz.pinned (OpenSpec.ofChange evalPureWrong)

/-- 'fullinglaw9.EvalValueReference': WHATEVER THE INPUT: true; the input reads as it did. -/
def evalValueReferenceSpec : ChangeSpec := { name := "evalValueReference", fn := fun _ => fun
  | [d1, d2, d3, d4, d5, d6, d7] => { results := [.lit (.bool true)], args := [d1, d2, d3, d4, d5, d6, d7] }
  | _ => none }
def evalValueReferenceRow : OpenClaim := { program := "ytmjaimpkjjkliaagreat", sum := "4b48eed0c40a3c378121f83d10760f4d75585cf78828337d9e07e8b7ff55d256", func := "fulling/fullinglaw9.EvalValueReference", spec := "evalValueReference", unfollowed := true, recurses := true, apart := false }
def EvalValueReferenceSaid : Prop := evalValueReferenceRow.holds Tryz.pinned (OpenSpec.ofChange evalValueReferenceSpec)

/-- ITS FALSE NEIGHBOUR: 'it returns false'. Refute it at one input. -/
def evalValueReferenceWrong : ChangeSpec := { name := "evalValueReference", fn := fun _ => fun
  | [d1, d2, d3, d4, d5, d6, d7] => { results := [.lit (.bool false)], args := [d1, d2, d3, d4, d5, d6, d7] }
  | _ => none }
def EvalValueReferenceWrongFalsely : Prop := evalValueReferenceRow.holds Tryz.pinned (OpenSpec.ofChange evalValueReferenceWrong)

/-- 'fullinglaw9.EvalLowerCorrect': WHATEVER THE INPUT: true; the input reads as it did. -/
def evalLowerCorrectSpec : ChangeSpec := { name := "evalLowerCorrect", fn := fun _ => fun
  | [d1, d2, d3, d4, d5] => { results := [.lit (.bool true)], args := [d1, d2, d3, d4, d5] }
  | _ => none }
def evalLowerCorrectRow : OpenClaim := { program := "ytmjaimpkjjkliaagreat", sum := "4b48eed0c40a3c378121f83d10760f4d75585cf78828337d9e07e8b7ff55d256", func := "fulling/fullinglaw9.EvalLowerCorrect", spec := "evalLowerCorrect", unfollowed := true, recurses := true, apart := false }
def EvalLowerCorrectSaid : Prop := evalLowerCorrectRow.holds Tryz.pinned (OpenSpec.ofChange evalLowerCorrectSpec)

/-- ITS FALSE NEIGHBOUR: 'it returns false'. Refute it at one input. -/
def evalLowerCorrectWrong : ChangeSpec := { name := "evalLowerCorrect", fn := fun _ => fun
  | [d1, d2, d3, d4, d5] => { results := [.lit (.bool false)], args := [d1, d2, d3, d4, d5] }
  | _ => none }
def EvalLowerCorrectWrongFalsely : Prop := evalLowerCorrectRow.holds Tryz.pinned (OpenSpec.ofChange evalLowerCorrectWrong)

/- THE SECOND FORM. 'bulk': how many values and letters a reading holds, each counted each time it is reached (what is shared counts as often as it is met; a slice's spare places count too). A statement '..UptoSaid' is the law's where the arguments, and the package variables that the reading takes, are together of bulk at most 1048576: NARROWER than '..Said'. Prove '..Said' where nothing that the law and all that it calls make is longer than what came in: it says more and counts as full. Else prove '..UptoSaid'. A law counts once. -/
mutual
def uptoBulk {H : Type} : DataW H → Nat
  | .lit (.string bytes) => bytes.length + 1
  | .lit _ => 1
  | .nil => 1
  | .ptr d => uptoBulk d + 1
  | .slice elems spare => uptoBulkAll elems + uptoBulkAll spare + 1
  | .agg parts => uptoBulkAll parts + 1
  | .iface _ d => uptoBulk d + 1
  | .map entries => uptoBulkEntries entries + 1
  | .held _ => 1
def uptoBulkAll {H : Type} : List (DataW H) → Nat
  | [] => 0
  | d :: r => uptoBulk d + uptoBulkAll r
def uptoBulkEntries {H : Type} : List (Lit × DataW H) → Nat
  | [] => 0
  | x :: r => uptoBulkEntry x + uptoBulkEntries r
def uptoBulkEntry {H : Type} : Lit × DataW H → Nat
  | (.string bytes, d) => bytes.length + uptoBulk d + 1
  | (_, d) => uptoBulk d + 1
 end
def uptoSmall : (H : Type) → List (DataW H) → Bool := fun _ ds => decide (uptoBulkAll ds ≤ 1048576)
def OpenSpec.upto (s : _root_.Go.ChangeSpec) : _root_.Go.OpenSpec := { _root_.Go.OpenSpec.ofChange s with cond := some uptoSmall }

/-- 'fullinglaw8.LowerReference', WHERE WHAT IT READS IS OF BULK AT MOST 1048576: true; the input reads as it did. -/
def lowerReferenceUptoRow : OpenClaim := { program := "ytmjaimpkjjkliaagreat", sum := "4b48eed0c40a3c378121f83d10760f4d75585cf78828337d9e07e8b7ff55d256", func := "fulling/fullinglaw8.LowerReference", spec := "lowerReference", unfollowed := true, recurses := true, loops := true, apart := false, narrowed := true }
def LowerReferenceUptoSaid : Prop := lowerReferenceUptoRow.holds Tryz.pinned (OpenSpec.upto lowerReferenceSpec)

/-- 'fullinglaw8.LowerLoops', WHERE WHAT IT READS IS OF BULK AT MOST 1048576: true; the input reads as it did. -/
def lowerLoopsUptoRow : OpenClaim := { program := "ytmjaimpkjjkliaagreat", sum := "4b48eed0c40a3c378121f83d10760f4d75585cf78828337d9e07e8b7ff55d256", func := "fulling/fullinglaw8.LowerLoops", spec := "lowerLoops", unfollowed := true, recurses := true, apart := false, narrowed := true }
def LowerLoopsUptoSaid : Prop := lowerLoopsUptoRow.holds Tryz.pinned (OpenSpec.upto lowerLoopsSpec)

/-- 'fullinglaw7.IRReference', WHERE WHAT IT READS IS OF BULK AT MOST 1048576: true; the input reads as it did. -/
def iRReferenceUptoRow : OpenClaim := { program := "ytmjaimpkjjkliaagreat", sum := "4b48eed0c40a3c378121f83d10760f4d75585cf78828337d9e07e8b7ff55d256", func := "fulling/fullinglaw7.IRReference", spec := "iRReference", unfollowed := true, recurses := true, apart := false, narrowed := true }
def IRReferenceUptoSaid : Prop := iRReferenceUptoRow.holds Tryz.pinned (OpenSpec.upto iRReferenceSpec)

/-- 'fullinglaw7.IRValidReference', WHERE WHAT IT READS IS OF BULK AT MOST 1048576: true; the input reads as it did. -/
def iRValidReferenceUptoRow : OpenClaim := { program := "ytmjaimpkjjkliaagreat", sum := "4b48eed0c40a3c378121f83d10760f4d75585cf78828337d9e07e8b7ff55d256", func := "fulling/fullinglaw7.IRValidReference", spec := "iRValidReference", unfollowed := true, recurses := true, apart := false, narrowed := true }
def IRValidReferenceUptoSaid : Prop := iRValidReferenceUptoRow.holds Tryz.pinned (OpenSpec.upto iRValidReferenceSpec)

/-- 'fullinglaw8.LowerValid', WHERE WHAT IT READS IS OF BULK AT MOST 1048576: true; the input reads as it did. -/
def lowerValidUptoRow : OpenClaim := { program := "ytmjaimpkjjkliaagreat", sum := "4b48eed0c40a3c378121f83d10760f4d75585cf78828337d9e07e8b7ff55d256", func := "fulling/fullinglaw8.LowerValid", spec := "lowerValid", unfollowed := true, recurses := true, apart := false, narrowed := true }
def LowerValidUptoSaid : Prop := lowerValidUptoRow.holds Tryz.pinned (OpenSpec.upto lowerValidSpec)

/-- 'fullinglaw9.EvalExamples', WHERE WHAT IT READS IS OF BULK AT MOST 1048576: true; the input reads as it did. -/
def evalExamplesUptoRow : OpenClaim := { program := "ytmjaimpkjjkliaagreat", sum := "4b48eed0c40a3c378121f83d10760f4d75585cf78828337d9e07e8b7ff55d256", func := "fulling/fullinglaw9.EvalExamples", spec := "evalExamples", unfollowed := true, recurses := true, apart := false, narrowed := true }
def EvalExamplesUptoSaid : Prop := evalExamplesUptoRow.holds Tryz.pinned (OpenSpec.upto evalExamplesSpec)

/-- 'fullinglaw9.EvalDeadNodes', WHERE WHAT IT READS IS OF BULK AT MOST 1048576: true; the input reads as it did. -/
def evalDeadNodesUptoRow : OpenClaim := { program := "ytmjaimpkjjkliaagreat", sum := "4b48eed0c40a3c378121f83d10760f4d75585cf78828337d9e07e8b7ff55d256", func := "fulling/fullinglaw9.EvalDeadNodes", spec := "evalDeadNodes", unfollowed := true, recurses := true, apart := false, narrowed := true }
def EvalDeadNodesUptoSaid : Prop := evalDeadNodesUptoRow.holds Tryz.pinned (OpenSpec.upto evalDeadNodesSpec)

/-- 'fullinglaw9.EvalStopped', WHERE WHAT IT READS IS OF BULK AT MOST 1048576: true; the input reads as it did. -/
def evalStoppedUptoRow : OpenClaim := { program := "ytmjaimpkjjkliaagreat", sum := "4b48eed0c40a3c378121f83d10760f4d75585cf78828337d9e07e8b7ff55d256", func := "fulling/fullinglaw9.EvalStopped", spec := "evalStopped", unfollowed := true, recurses := true, apart := false, narrowed := true }
def EvalStoppedUptoSaid : Prop := evalStoppedUptoRow.holds Tryz.pinned (OpenSpec.upto evalStoppedSpec)

/-- 'fullinglaw9.EvalFuelMonotonic', WHERE WHAT IT READS IS OF BULK AT MOST 1048576: true; the input reads as it did. -/
def evalFuelMonotonicUptoRow : OpenClaim := { program := "ytmjaimpkjjkliaagreat", sum := "4b48eed0c40a3c378121f83d10760f4d75585cf78828337d9e07e8b7ff55d256", func := "fulling/fullinglaw9.EvalFuelMonotonic", spec := "evalFuelMonotonic", unfollowed := true, recurses := true, apart := false, narrowed := true }
def EvalFuelMonotonicUptoSaid : Prop := evalFuelMonotonicUptoRow.holds Tryz.pinned (OpenSpec.upto evalFuelMonotonicSpec)

/-- 'fullinglaw9.EvalLaziness', WHERE WHAT IT READS IS OF BULK AT MOST 1048576: true; the input reads as it did. -/
def evalLazinessUptoRow : OpenClaim := { program := "ytmjaimpkjjkliaagreat", sum := "4b48eed0c40a3c378121f83d10760f4d75585cf78828337d9e07e8b7ff55d256", func := "fulling/fullinglaw9.EvalLaziness", spec := "evalLaziness", unfollowed := true, recurses := true, apart := false, narrowed := true }
def EvalLazinessUptoSaid : Prop := evalLazinessUptoRow.holds Tryz.pinned (OpenSpec.upto evalLazinessSpec)

/-- 'fullinglaw9.EvalStoreLoad', WHERE WHAT IT READS IS OF BULK AT MOST 1048576: true; the input reads as it did. -/
def evalStoreLoadUptoRow : OpenClaim := { program := "ytmjaimpkjjkliaagreat", sum := "4b48eed0c40a3c378121f83d10760f4d75585cf78828337d9e07e8b7ff55d256", func := "fulling/fullinglaw9.EvalStoreLoad", spec := "evalStoreLoad", unfollowed := true, recurses := true, apart := false, narrowed := true }
def EvalStoreLoadUptoSaid : Prop := evalStoreLoadUptoRow.holds Tryz.pinned (OpenSpec.upto evalStoreLoadSpec)

/-- 'fullinglaw9.EvalPure', WHERE WHAT IT READS IS OF BULK AT MOST 1048576: true; the input reads as it did. -/
def evalPureUptoRow : OpenClaim := { program := "ytmjaimpkjjkliaagreat", sum := "4b48eed0c40a3c378121f83d10760f4d75585cf78828337d9e07e8b7ff55d256", func := "fulling/fullinglaw9.EvalPure", spec := "evalPure", unfollowed := true, recurses := true, apart := false, narrowed := true }
def EvalPureUptoSaid : Prop := evalPureUptoRow.holds Tryz.pinned (OpenSpec.upto evalPureSpec)

/-- 'fullinglaw9.EvalValueReference', WHERE WHAT IT READS IS OF BULK AT MOST 1048576: true; the input reads as it did. -/
def evalValueReferenceUptoRow : OpenClaim := { program := "ytmjaimpkjjkliaagreat", sum := "4b48eed0c40a3c378121f83d10760f4d75585cf78828337d9e07e8b7ff55d256", func := "fulling/fullinglaw9.EvalValueReference", spec := "evalValueReference", unfollowed := true, recurses := true, apart := false, narrowed := true }
def EvalValueReferenceUptoSaid : Prop := evalValueReferenceUptoRow.holds Tryz.pinned (OpenSpec.upto evalValueReferenceSpec)

/-- 'fullinglaw9.EvalLowerCorrect', WHERE WHAT IT READS IS OF BULK AT MOST 1048576: true; the input reads as it did. -/
def evalLowerCorrectUptoRow : OpenClaim := { program := "ytmjaimpkjjkliaagreat", sum := "4b48eed0c40a3c378121f83d10760f4d75585cf78828337d9e07e8b7ff55d256", func := "fulling/fullinglaw9.EvalLowerCorrect", spec := "evalLowerCorrect", unfollowed := true, recurses := true, apart := false, narrowed := true }
def EvalLowerCorrectUptoSaid : Prop := evalLowerCorrectUptoRow.holds Tryz.pinned (OpenSpec.upto evalLowerCorrectSpec)

end Rows
end Go.Proofs.YtmjaimpkjjkliaaGreat
