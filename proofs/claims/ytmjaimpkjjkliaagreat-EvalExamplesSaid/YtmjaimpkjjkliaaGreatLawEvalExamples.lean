/- The law EvalExamples returns true, whatever the world, without a condition: its calls are run by an abstract machine whose answers hold of the model. -/
import Derived.Test.YtmjaimpkjjkliaaGreatRows
import Derived.Test.YtmjaimpkjjkliaaGreatEe5
import Derived.Test.YtmjaimpkjjkliaaGreatAmM15
import Derived.Test.YtmjaimpkjjkliaaGreatFa
import Derived.Test.YtmjaimpkjjkliaaGreatFb
import Derived.Test.YtmjaimpkjjkliaaGreatFc
import Derived.Test.YtmjaimpkjjkliaaGreatFd
import Derived.Test.YtmjaimpkjjkliaaGreatGaEvalExamples
import Derived.Test.YtmjaimpkjjkliaaGreatGbEvalExamples
import Derived.WalkKit
import Derived.ProofKit
import Derived.OpenShut
namespace Go.Proofs.YtmjaimpkjjkliaaGreat.evalExamples
open Go.ChangeShapes Go.WideShapes Go.ChangeAt Go.RowKit
set_option linter.unusedVariables false      -- a walk need not use every 'w<i>' (that an integer argument fits its kind)

theorem own : ownKnob Tryz.prog.godebug = none := by kernel_rfl

theorem walk  (w : World) :
    Calls Tryz.prog 8 #[] w fun e w' => e = .returned (.bool true) ∧ Go.Am.Kept w w' := by
  exact Go.Am.YtmjaimpkjjkliaaGreat.ex_all.law (Go.Am.frozenI_none w) .nil

set_option maxRecDepth 100000 in
theorem lifted (os : Os) (started : os.Started) (H : Type) (enc : TypeId × Value → H) :
    ReturnsInHanded {} Tryz.checked os 8 .any (Rows.evalExamplesSpec.pre6 enc Tryz.prog Tryz.f8 Rows.evalExamplesRow.domain false) (Rows.evalExamplesSpec.post enc Tryz.prog Tryz.f8 false true false false) := by
  refine returnsInHanded_of_change (C := Tryz.checked) own started (by kernel_rfl) Tryz.func8
    (ChangeSpec.witness6 (enc := enc) (C := Tryz.checked) false ⟨#[], #[], []⟩ 8 (by kernel_rfl) (by kernel_rfl) (by kernel_rfl) (by kernel_rfl)) ?_
  intro W base args ds gs before hval0 hW hcnd _
  have hval : ∀ (j : Nat) t v, Tryz.f8.params[j]? = some t → args[j]? = some v → Value.okWide Tryz.prog W .any base t v := hval0
  have hW' := hW
  obtain ⟨p, q, hA0, hV, rfl, hfz, hnd⟩ := hW
  have hA : DataW.TrodAll enc Tryz.prog W 0 (fun _ => true) true Tryz.f8.params.toList args.toList ds p := hA0
  rw [Tryz.params8] at hA hval
  obtain ⟨rfl, rfl, rfl⟩ := trodAll_none hA
  obtain ⟨rfl, rfl⟩ := trodVars_none hV
  clear hA0 hval0
  simp only [List.append_nil] at hW'
  refine (walk  W).mono fun e W' ⟨he, hg⟩ => ?_
  subst he
  exact ⟨_, rfl, Go.Am.post_kept (pa := []) (pv := []) hW' (fun _ _ _ => (trodAll_cons_mk (shut_bool Tryz.underlying4 _) trodAll_mk0)) (fun sp _ => rfl) (fun _ _ => rfl) rfl
    hg (ok_one (by kernel_rfl) rfl (okWide_bool_mk Tryz.underlying4 _))⟩

theorem closed : joinedFacts Tryz.prog 8 Tryz.f8 Rows.evalExamplesSpec Rows.evalExamplesRow = true := by
  unfold joinedFacts
  simp only [Bool.and_eq_true]
  repeat' apply And.intro
  all_goals first
    | with_reducible exact f_mayEnter
    | with_reducible exact f_laid
    | with_reducible exact f_maps
    | with_reducible exact f_heard
    | with_reducible exact f_make
    | with_reducible exact f_lifts
    | with_reducible exact f_plain
    | with_reducible exact g_namedEvalExamples
    | with_reducible exact g_inPlaceEvalExamples
    | with_reducible exact g_unfollowedEvalExamples
    | with_reducible exact g_recursesEvalExamples
    | kernel_rfl

theorem over : Rows.evalExamplesRow.holds Tryz.pinned (OpenSpec.ofChange Rows.evalExamplesSpec) :=
  OpenClaim.holds_of_wide 8 Tryz.f8 rfl rfl rfl rfl rfl rfl rfl ⟨rfl, rfl, rfl, rfl, rfl⟩ rfl rfl rfl rfl rfl (by kernel_rfl) Tryz.func8 closed
    (of_decide_eq_true (by kernel_rfl)) (by unfold Func.isWrapper; first | (rw [if_pos (by decide +kernel)]; kernel_rfl) | (rw [if_neg (by decide +kernel)]; exact ⟨rfl, rfl⟩))
    (fun os started H enc _ => lifted os started H enc)

theorem proved : Rows.EvalExamplesSaid :=
  over
end Go.Proofs.YtmjaimpkjjkliaaGreat.evalExamples
