/-
  No cell of these rows narrows 'for every input' (looked for: loops, veiled, ifaces, maps, wideKeys, modest, calm, conditions, laid).
  DERIVED. THE GIVEN ROWS OF THIS SEAT. 10 by the template 'for every input the law returns true; each argument reads behind the call as it read before'; 0 by the template 'total and deterministic' (their statements: YtmjaimpkjjkliaaTotals.lean).
  GIVEN WITH THE SEED: the statements are not yours to turn. If you find one false, say at which input.
  Laid BY PROGRAM, IN A SANDBOX (cutbox-rows.mjs): the forced cells as the released guide's own fill.sh prints them over the translation 4e9f0bd775eaf22c… (all of the seat's roots in one cut). By AI agents, Wed Nov 11 2026. No macro, syntax, notation, axiom, sorry.
-/
import Derived.Test.YtmjaimpkjjkliaaChecked
import GoSem.Claim
import GoSem.ClaimJoined
import GoSem.ClaimMapViews
import Derived.JoinedTies
import Derived.KernelRfl
namespace Go.Proofs.Ytmjaimpkjjkliaa
/- THE CELL 'sum', in the pinned program and in every row, IS THE sha256 OF THE DUMP (.gsa) THAT YtmjaimpkjjkliaaProg.lean LOADS. Nothing in Lean hashes anything: it is a label: what it is worth is what the hold of that sum in a sandbox is worth. -/
noncomputable def Try.pinned : Pinned := { name := "ytmjaimpkjjkliaa", sum := "4e9f0bd775eaf22cea6c8410a19d40190e51981710ce16c9327ddc04912d5617", checked := Try.checked }
namespace Rows
def none {H : Type} : Left H := { results := [], args := [] }

/-- 'fullinglaw8.LowerExamples': WHATEVER THE INPUT: true; the input reads as it did. -/
def lowerExamplesSpec : ChangeSpec := { name := "lowerExamples", fn := fun _ => fun
  | [] => { results := [.lit (.bool true)], args := [] }
  | _ => none }
def lowerExamplesRow : OpenClaim := { program := "ytmjaimpkjjkliaa", sum := "4e9f0bd775eaf22cea6c8410a19d40190e51981710ce16c9327ddc04912d5617", func := "fulling/fullinglaw8.LowerExamples", spec := "lowerExamples", unfollowed := true, recurses := true, apart := false }
def LowerExamplesSaid : Prop := lowerExamplesRow.holds Try.pinned (OpenSpec.ofChange lowerExamplesSpec)

/-- ITS FALSE NEIGHBOUR: 'it returns false'. Refute it at one input. -/
def lowerExamplesWrong : ChangeSpec := { name := "lowerExamples", fn := fun _ => fun
  | [] => { results := [.lit (.bool false)], args := [] }
  | _ => none }
def LowerExamplesWrongFalsely : Prop := lowerExamplesRow.holds Try.pinned (OpenSpec.ofChange lowerExamplesWrong)

/-- 'fullinglaw8.LowerShares': WHATEVER THE INPUT: true; the input reads as it did. -/
def lowerSharesSpec : ChangeSpec := { name := "lowerShares", fn := fun _ => fun
  | [d] => { results := [.lit (.bool true)], args := [d] }
  | _ => none }
def lowerSharesRow : OpenClaim := { program := "ytmjaimpkjjkliaa", sum := "4e9f0bd775eaf22cea6c8410a19d40190e51981710ce16c9327ddc04912d5617", func := "fulling/fullinglaw8.LowerShares", spec := "lowerShares", unfollowed := true, recurses := true, apart := false }
def LowerSharesSaid : Prop := lowerSharesRow.holds Try.pinned (OpenSpec.ofChange lowerSharesSpec)

/-- ITS FALSE NEIGHBOUR: 'it returns false'. Refute it at one input. -/
def lowerSharesWrong : ChangeSpec := { name := "lowerShares", fn := fun _ => fun
  | [d] => { results := [.lit (.bool false)], args := [d] }
  | _ => none }
def LowerSharesWrongFalsely : Prop := lowerSharesRow.holds Try.pinned (OpenSpec.ofChange lowerSharesWrong)

/-- 'fullinglaw8.LowerRenaming': WHATEVER THE INPUT: true; the input reads as it did. -/
def lowerRenamingSpec : ChangeSpec := { name := "lowerRenaming", fn := fun _ => fun
  | [d1, d2] => { results := [.lit (.bool true)], args := [d1, d2] }
  | _ => none }
def lowerRenamingRow : OpenClaim := { program := "ytmjaimpkjjkliaa", sum := "4e9f0bd775eaf22cea6c8410a19d40190e51981710ce16c9327ddc04912d5617", func := "fulling/fullinglaw8.LowerRenaming", spec := "lowerRenaming", unfollowed := true, recurses := true, apart := false }
def LowerRenamingSaid : Prop := lowerRenamingRow.holds Try.pinned (OpenSpec.ofChange lowerRenamingSpec)

/-- ITS FALSE NEIGHBOUR: 'it returns false'. Refute it at one input. -/
def lowerRenamingWrong : ChangeSpec := { name := "lowerRenaming", fn := fun _ => fun
  | [d1, d2] => { results := [.lit (.bool false)], args := [d1, d2] }
  | _ => none }
def LowerRenamingWrongFalsely : Prop := lowerRenamingRow.holds Try.pinned (OpenSpec.ofChange lowerRenamingWrong)

/-- 'fullinglaw8.LowerGuards': WHATEVER THE INPUT: true; the input reads as it did. -/
def lowerGuardsSpec : ChangeSpec := { name := "lowerGuards", fn := fun _ => fun
  | [d1, d2] => { results := [.lit (.bool true)], args := [d1, d2] }
  | _ => none }
def lowerGuardsRow : OpenClaim := { program := "ytmjaimpkjjkliaa", sum := "4e9f0bd775eaf22cea6c8410a19d40190e51981710ce16c9327ddc04912d5617", func := "fulling/fullinglaw8.LowerGuards", spec := "lowerGuards", unfollowed := true, recurses := true, apart := false }
def LowerGuardsSaid : Prop := lowerGuardsRow.holds Try.pinned (OpenSpec.ofChange lowerGuardsSpec)

/-- ITS FALSE NEIGHBOUR: 'it returns false'. Refute it at one input. -/
def lowerGuardsWrong : ChangeSpec := { name := "lowerGuards", fn := fun _ => fun
  | [d1, d2] => { results := [.lit (.bool false)], args := [d1, d2] }
  | _ => none }
def LowerGuardsWrongFalsely : Prop := lowerGuardsRow.holds Try.pinned (OpenSpec.ofChange lowerGuardsWrong)

/-- 'fullinglaw8.LowerStateChain': WHATEVER THE INPUT: true; the input reads as it did. -/
def lowerStateChainSpec : ChangeSpec := { name := "lowerStateChain", fn := fun _ => fun
  | [d] => { results := [.lit (.bool true)], args := [d] }
  | _ => none }
def lowerStateChainRow : OpenClaim := { program := "ytmjaimpkjjkliaa", sum := "4e9f0bd775eaf22cea6c8410a19d40190e51981710ce16c9327ddc04912d5617", func := "fulling/fullinglaw8.LowerStateChain", spec := "lowerStateChain", unfollowed := true, recurses := true, apart := false }
def LowerStateChainSaid : Prop := lowerStateChainRow.holds Try.pinned (OpenSpec.ofChange lowerStateChainSpec)

/-- ITS FALSE NEIGHBOUR: 'it returns false'. Refute it at one input. -/
def lowerStateChainWrong : ChangeSpec := { name := "lowerStateChain", fn := fun _ => fun
  | [d] => { results := [.lit (.bool false)], args := [d] }
  | _ => none }
def LowerStateChainWrongFalsely : Prop := lowerStateChainRow.holds Try.pinned (OpenSpec.ofChange lowerStateChainWrong)

/-- 'fullinglaw7.IRExamples': WHATEVER THE INPUT: true; the input reads as it did. -/
def iRExamplesSpec : ChangeSpec := { name := "iRExamples", fn := fun _ => fun
  | [] => { results := [.lit (.bool true)], args := [] }
  | _ => none }
def iRExamplesRow : OpenClaim := { program := "ytmjaimpkjjkliaa", sum := "4e9f0bd775eaf22cea6c8410a19d40190e51981710ce16c9327ddc04912d5617", func := "fulling/fullinglaw7.IRExamples", spec := "iRExamples", unfollowed := true, recurses := true, apart := false }
def IRExamplesSaid : Prop := iRExamplesRow.holds Try.pinned (OpenSpec.ofChange iRExamplesSpec)

/-- ITS FALSE NEIGHBOUR: 'it returns false'. Refute it at one input. -/
def iRExamplesWrong : ChangeSpec := { name := "iRExamples", fn := fun _ => fun
  | [] => { results := [.lit (.bool false)], args := [] }
  | _ => none }
def IRExamplesWrongFalsely : Prop := iRExamplesRow.holds Try.pinned (OpenSpec.ofChange iRExamplesWrong)

/-- 'fullinglaw7.IRDependencies': WHATEVER THE INPUT: true; the input reads as it did. -/
def iRDependenciesSpec : ChangeSpec := { name := "iRDependencies", fn := fun _ => fun
  | [d1, d2, d3] => { results := [.lit (.bool true)], args := [d1, d2, d3] }
  | _ => none }
def iRDependenciesRow : OpenClaim := { program := "ytmjaimpkjjkliaa", sum := "4e9f0bd775eaf22cea6c8410a19d40190e51981710ce16c9327ddc04912d5617", func := "fulling/fullinglaw7.IRDependencies", spec := "iRDependencies", unfollowed := true, recurses := true, apart := false }
def IRDependenciesSaid : Prop := iRDependenciesRow.holds Try.pinned (OpenSpec.ofChange iRDependenciesSpec)

/-- ITS FALSE NEIGHBOUR: 'it returns false'. Refute it at one input. -/
def iRDependenciesWrong : ChangeSpec := { name := "iRDependencies", fn := fun _ => fun
  | [d1, d2, d3] => { results := [.lit (.bool false)], args := [d1, d2, d3] }
  | _ => none }
def IRDependenciesWrongFalsely : Prop := iRDependenciesRow.holds Try.pinned (OpenSpec.ofChange iRDependenciesWrong)

/-- 'fullinglaw7.IRLoops': WHATEVER THE INPUT: true; the input reads as it did. -/
def iRLoopsSpec : ChangeSpec := { name := "iRLoops", fn := fun _ => fun
  | [d1, d2, d3] => { results := [.lit (.bool true)], args := [d1, d2, d3] }
  | _ => none }
def iRLoopsRow : OpenClaim := { program := "ytmjaimpkjjkliaa", sum := "4e9f0bd775eaf22cea6c8410a19d40190e51981710ce16c9327ddc04912d5617", func := "fulling/fullinglaw7.IRLoops", spec := "iRLoops", unfollowed := true, recurses := true, apart := false }
def IRLoopsSaid : Prop := iRLoopsRow.holds Try.pinned (OpenSpec.ofChange iRLoopsSpec)

/-- ITS FALSE NEIGHBOUR: 'it returns false'. Refute it at one input. -/
def iRLoopsWrong : ChangeSpec := { name := "iRLoops", fn := fun _ => fun
  | [d1, d2, d3] => { results := [.lit (.bool false)], args := [d1, d2, d3] }
  | _ => none }
def IRLoopsWrongFalsely : Prop := iRLoopsRow.holds Try.pinned (OpenSpec.ofChange iRLoopsWrong)

/-- 'fullinglaw7.IRPrefix': WHATEVER THE INPUT: true; the input reads as it did. -/
def iRPrefixSpec : ChangeSpec := { name := "iRPrefix", fn := fun _ => fun
  | [d1, d2, d3, d4] => { results := [.lit (.bool true)], args := [d1, d2, d3, d4] }
  | _ => none }
def iRPrefixRow : OpenClaim := { program := "ytmjaimpkjjkliaa", sum := "4e9f0bd775eaf22cea6c8410a19d40190e51981710ce16c9327ddc04912d5617", func := "fulling/fullinglaw7.IRPrefix", spec := "iRPrefix", unfollowed := true, recurses := true, apart := false }
def IRPrefixSaid : Prop := iRPrefixRow.holds Try.pinned (OpenSpec.ofChange iRPrefixSpec)

/-- ITS FALSE NEIGHBOUR: 'it returns false'. Refute it at one input. -/
def iRPrefixWrong : ChangeSpec := { name := "iRPrefix", fn := fun _ => fun
  | [d1, d2, d3, d4] => { results := [.lit (.bool false)], args := [d1, d2, d3, d4] }
  | _ => none }
def IRPrefixWrongFalsely : Prop := iRPrefixRow.holds Try.pinned (OpenSpec.ofChange iRPrefixWrong)

/-- 'fullinglaw7.IRValidParts': WHATEVER THE INPUT: true; the input reads as it did. -/
def iRValidPartsSpec : ChangeSpec := { name := "iRValidParts", fn := fun _ => fun
  | [d1, d2, d3] => { results := [.lit (.bool true)], args := [d1, d2, d3] }
  | _ => none }
def iRValidPartsRow : OpenClaim := { program := "ytmjaimpkjjkliaa", sum := "4e9f0bd775eaf22cea6c8410a19d40190e51981710ce16c9327ddc04912d5617", func := "fulling/fullinglaw7.IRValidParts", spec := "iRValidParts", unfollowed := true, recurses := true, apart := false }
def IRValidPartsSaid : Prop := iRValidPartsRow.holds Try.pinned (OpenSpec.ofChange iRValidPartsSpec)

/-- ITS FALSE NEIGHBOUR: 'it returns false'. Refute it at one input. -/
def iRValidPartsWrong : ChangeSpec := { name := "iRValidParts", fn := fun _ => fun
  | [d1, d2, d3] => { results := [.lit (.bool false)], args := [d1, d2, d3] }
  | _ => none }
def IRValidPartsWrongFalsely : Prop := iRValidPartsRow.holds Try.pinned (OpenSpec.ofChange iRValidPartsWrong)

/- THE SECOND FORM. 'bulk': how many values and letters a reading holds, each counted each time it is reached (what is shared counts as often as it is met; a slice's spare places count too). A statement '..UptoSaid' is the law's where the arguments, and the package variables that the reading takes, are together of bulk at most 1048576: NARROWER than '..Said'. Prove '..Said' where nothing that the law and all that it calls make is longer than what came in: it says more and counts as full. Else prove '..UptoSaid'. A law counts once. -/
mutual
def uptoBulk {H : Type} : DataW H → Nat
  | .lit (.string bytes) => bytes.length + 1
  | .lit _ => 1
  | .nil => 1
  | .ptr d => uptoBulk d + 1
  | .slice elems spare => uptoBulkAll elems + uptoBulkAll spare + 1
  | .agg parts => uptoBulkAll parts + 1
  | .iface _ d => uptoBulk d + 1
  | .map entries => uptoBulkEntries entries + 1
  | .held _ => 1
def uptoBulkAll {H : Type} : List (DataW H) → Nat
  | [] => 0
  | d :: r => uptoBulk d + uptoBulkAll r
def uptoBulkEntries {H : Type} : List (Lit × DataW H) → Nat
  | [] => 0
  | x :: r => uptoBulkEntry x + uptoBulkEntries r
def uptoBulkEntry {H : Type} : Lit × DataW H → Nat
  | (.string bytes, d) => bytes.length + uptoBulk d + 1
  | (_, d) => uptoBulk d + 1
 end
def uptoSmall : (H : Type) → List (DataW H) → Bool := fun _ ds => decide (uptoBulkAll ds ≤ 1048576)
def OpenSpec.upto (s : _root_.Go.ChangeSpec) : _root_.Go.OpenSpec := { _root_.Go.OpenSpec.ofChange s with cond := some uptoSmall }

/-- 'fullinglaw8.LowerExamples', WHERE WHAT IT READS IS OF BULK AT MOST 1048576: true; the input reads as it did. -/
def lowerExamplesUptoRow : OpenClaim := { program := "ytmjaimpkjjkliaa", sum := "4e9f0bd775eaf22cea6c8410a19d40190e51981710ce16c9327ddc04912d5617", func := "fulling/fullinglaw8.LowerExamples", spec := "lowerExamples", unfollowed := true, recurses := true, apart := false, narrowed := true }
def LowerExamplesUptoSaid : Prop := lowerExamplesUptoRow.holds Try.pinned (OpenSpec.upto lowerExamplesSpec)

/-- 'fullinglaw8.LowerShares', WHERE WHAT IT READS IS OF BULK AT MOST 1048576: true; the input reads as it did. -/
def lowerSharesUptoRow : OpenClaim := { program := "ytmjaimpkjjkliaa", sum := "4e9f0bd775eaf22cea6c8410a19d40190e51981710ce16c9327ddc04912d5617", func := "fulling/fullinglaw8.LowerShares", spec := "lowerShares", unfollowed := true, recurses := true, apart := false, narrowed := true }
def LowerSharesUptoSaid : Prop := lowerSharesUptoRow.holds Try.pinned (OpenSpec.upto lowerSharesSpec)

/-- 'fullinglaw8.LowerRenaming', WHERE WHAT IT READS IS OF BULK AT MOST 1048576: true; the input reads as it did. -/
def lowerRenamingUptoRow : OpenClaim := { program := "ytmjaimpkjjkliaa", sum := "4e9f0bd775eaf22cea6c8410a19d40190e51981710ce16c9327ddc04912d5617", func := "fulling/fullinglaw8.LowerRenaming", spec := "lowerRenaming", unfollowed := true, recurses := true, apart := false, narrowed := true }
def LowerRenamingUptoSaid : Prop := lowerRenamingUptoRow.holds Try.pinned (OpenSpec.upto lowerRenamingSpec)

/-- 'fullinglaw8.LowerGuards', WHERE WHAT IT READS IS OF BULK AT MOST 1048576: true; the input reads as it did. -/
def lowerGuardsUptoRow : OpenClaim := { program := "ytmjaimpkjjkliaa", sum := "4e9f0bd775eaf22cea6c8410a19d40190e51981710ce16c9327ddc04912d5617", func := "fulling/fullinglaw8.LowerGuards", spec := "lowerGuards", unfollowed := true, recurses := true, apart := false, narrowed := true }
def LowerGuardsUptoSaid : Prop := lowerGuardsUptoRow.holds Try.pinned (OpenSpec.upto lowerGuardsSpec)

/-- 'fullinglaw8.LowerStateChain', WHERE WHAT IT READS IS OF BULK AT MOST 1048576: true; the input reads as it did. -/
def lowerStateChainUptoRow : OpenClaim := { program := "ytmjaimpkjjkliaa", sum := "4e9f0bd775eaf22cea6c8410a19d40190e51981710ce16c9327ddc04912d5617", func := "fulling/fullinglaw8.LowerStateChain", spec := "lowerStateChain", unfollowed := true, recurses := true, apart := false, narrowed := true }
def LowerStateChainUptoSaid : Prop := lowerStateChainUptoRow.holds Try.pinned (OpenSpec.upto lowerStateChainSpec)

/-- 'fullinglaw7.IRExamples', WHERE WHAT IT READS IS OF BULK AT MOST 1048576: true; the input reads as it did. -/
def iRExamplesUptoRow : OpenClaim := { program := "ytmjaimpkjjkliaa", sum := "4e9f0bd775eaf22cea6c8410a19d40190e51981710ce16c9327ddc04912d5617", func := "fulling/fullinglaw7.IRExamples", spec := "iRExamples", unfollowed := true, recurses := true, apart := false, narrowed := true }
def IRExamplesUptoSaid : Prop := iRExamplesUptoRow.holds Try.pinned (OpenSpec.upto iRExamplesSpec)

/-- 'fullinglaw7.IRDependencies', WHERE WHAT IT READS IS OF BULK AT MOST 1048576: true; the input reads as it did. -/
def iRDependenciesUptoRow : OpenClaim := { program := "ytmjaimpkjjkliaa", sum := "4e9f0bd775eaf22cea6c8410a19d40190e51981710ce16c9327ddc04912d5617", func := "fulling/fullinglaw7.IRDependencies", spec := "iRDependencies", unfollowed := true, recurses := true, apart := false, narrowed := true }
def IRDependenciesUptoSaid : Prop := iRDependenciesUptoRow.holds Try.pinned (OpenSpec.upto iRDependenciesSpec)

/-- 'fullinglaw7.IRLoops', WHERE WHAT IT READS IS OF BULK AT MOST 1048576: true; the input reads as it did. -/
def iRLoopsUptoRow : OpenClaim := { program := "ytmjaimpkjjkliaa", sum := "4e9f0bd775eaf22cea6c8410a19d40190e51981710ce16c9327ddc04912d5617", func := "fulling/fullinglaw7.IRLoops", spec := "iRLoops", unfollowed := true, recurses := true, apart := false, narrowed := true }
def IRLoopsUptoSaid : Prop := iRLoopsUptoRow.holds Try.pinned (OpenSpec.upto iRLoopsSpec)

/-- 'fullinglaw7.IRPrefix', WHERE WHAT IT READS IS OF BULK AT MOST 1048576: true; the input reads as it did. -/
def iRPrefixUptoRow : OpenClaim := { program := "ytmjaimpkjjkliaa", sum := "4e9f0bd775eaf22cea6c8410a19d40190e51981710ce16c9327ddc04912d5617", func := "fulling/fullinglaw7.IRPrefix", spec := "iRPrefix", unfollowed := true, recurses := true, apart := false, narrowed := true }
def IRPrefixUptoSaid : Prop := iRPrefixUptoRow.holds Try.pinned (OpenSpec.upto iRPrefixSpec)

/-- 'fullinglaw7.IRValidParts', WHERE WHAT IT READS IS OF BULK AT MOST 1048576: true; the input reads as it did. -/
def iRValidPartsUptoRow : OpenClaim := { program := "ytmjaimpkjjkliaa", sum := "4e9f0bd775eaf22cea6c8410a19d40190e51981710ce16c9327ddc04912d5617", func := "fulling/fullinglaw7.IRValidParts", spec := "iRValidParts", unfollowed := true, recurses := true, apart := false, narrowed := true }
def IRValidPartsUptoSaid : Prop := iRValidPartsUptoRow.holds Try.pinned (OpenSpec.upto iRValidPartsSpec)

end Rows
end Go.Proofs.Ytmjaimpkjjkliaa
