/- The law EvalLaziness returns true, whatever its arguments: the code is followed over values, function by function; the evaluator of graphs is shown to give what a graph means. -/
import Derived.Test.YtmjaimpkjjkliaaGreatRows
import Derived.Test.YtmjaimpkjjkliaaGreatQl27
import Derived.Test.YtmjaimpkjjkliaaGreatFa
import Derived.Test.YtmjaimpkjjkliaaGreatFb
import Derived.Test.YtmjaimpkjjkliaaGreatFc
import Derived.Test.YtmjaimpkjjkliaaGreatFd
import Derived.Test.YtmjaimpkjjkliaaGreatGaEvalLaziness
import Derived.Test.YtmjaimpkjjkliaaGreatGbEvalLaziness
import Derived.WalkKit
import Derived.ProofKit
import Derived.OpenShut
namespace Go.Proofs.YtmjaimpkjjkliaaGreat.evalLaziness
open Go.ChangeShapes Go.WideShapes Go.ChangeAt Go.RowKit
set_option linter.unusedVariables false

theorem own : ownKnob Tryz.prog.godebug = none := by kernel_rfl

theorem walk (a0 : Int) (a1 : Int) (a2 : Int) (w : World) (w0 : (Lit.int .i64 a0).wf = true) (w1 : (Lit.int .i64 a1).wf = true) (w2 : (Lit.int .i64 a2).wf = true) :
    Calls Tryz.prog 12 #[.int .i64 a0, .int .i64 a1, .int .i64 a2] w fun e w' => e = .returned (.bool true) ∧ Go.Am.Kept w w' := by
  exact Go.Am.Pu.law (Go.Am.YtmjaimpkjjkliaaGreat.lz_row (Go.Am.wf_rng w0) (Go.Am.wf_rng w1) (Go.Am.wf_rng w2)) (Go.Am.snapW_ok w) (.cons (.int _ _) (.cons (.int _ _) (.cons (.int _ _) .nil)))

set_option maxRecDepth 100000 in
theorem lifted (os : Os) (started : os.Started) (H : Type) (enc : TypeId × Value → H) :
    ReturnsInHanded {} Tryz.checked os 12 .any (Rows.evalLazinessSpec.pre6 enc Tryz.prog Tryz.f12 Rows.evalLazinessRow.domain false) (Rows.evalLazinessSpec.post enc Tryz.prog Tryz.f12 false true false false) := by
  refine returnsInHanded_of_change (C := Tryz.checked) own started (by kernel_rfl) Tryz.func12
    (ChangeSpec.witness6 (enc := enc) (C := Tryz.checked) false ⟨#[], #[.int .i64 0, .int .i64 0, .int .i64 0], []⟩ 8 (by kernel_rfl) (by kernel_rfl) (by kernel_rfl) (by kernel_rfl)) ?_
  intro W base args ds gs before hval0 hW hcnd _
  have hval : ∀ (j : Nat) t v, Tryz.f12.params[j]? = some t → args[j]? = some v → Value.okWide Tryz.prog W .any base t v := hval0
  have hW' := hW
  obtain ⟨p, q, hA0, hV, rfl, hfz, hnd⟩ := hW
  have hA : DataW.TrodAll enc Tryz.prog W 0 (fun _ => true) true Tryz.f12.params.toList args.toList ds p := hA0
  rw [Tryz.params12] at hA hval
  obtain ⟨v0, vs0, d0, ds0, p0, q0, hargs, rfl, rfl, h0, r0⟩ := trodAll_cons hA
  obtain ⟨v1, vs1, d1, ds1, p1, q1, rfl, rfl, rfl, h1, r1⟩ := trodAll_cons r0
  obtain ⟨v2, vs2, d2, ds2, p2, q2, rfl, rfl, rfl, h2, r2⟩ := trodAll_cons r1
  obtain ⟨rfl, rfl, rfl⟩ := trodAll_nil r2
  obtain rfl : args = #[v0, v1, v2] := by cases args; simp_all
  obtain ⟨rfl, rfl⟩ := trodVars_none hV
  obtain ⟨a0, rfl, rfl, rfl, w0⟩ := open_int Tryz.underlying2 (hval 0 2 v0 rfl rfl) h0
  obtain ⟨a1, rfl, rfl, rfl, w1⟩ := open_int Tryz.underlying3 (hval 1 3 v1 rfl rfl) h1
  obtain ⟨a2, rfl, rfl, rfl, w2⟩ := open_int Tryz.underlying2 (hval 2 2 v2 rfl rfl) h2
  clear hA0 hval0
  simp only [List.append_nil] at hW'
  refine (walk a0 a1 a2 W w0 w1 w2).mono fun e W' ⟨he, hg⟩ => ?_
  subst he
  exact ⟨_, rfl, Go.Am.post_kept (pv := []) hW' (fun _ _ _ => (trodAll_cons_mk (shut_bool Tryz.underlying4 _) trodAll_mk0)) (fun sp hsp => (trodAll_cons_mk (shut_int Tryz.underlying2 w0) (trodAll_cons_mk (shut_int Tryz.underlying3 w1) (trodAll_cons_mk (shut_int Tryz.underlying2 w2) trodAll_mk0)))) (fun _ _ => rfl) (by simp)
    hg (ok_one (by kernel_rfl) rfl (okWide_bool_mk Tryz.underlying4 _))⟩

theorem closed : joinedFacts Tryz.prog 12 Tryz.f12 Rows.evalLazinessSpec Rows.evalLazinessRow = true := by
  unfold joinedFacts
  simp only [Bool.and_eq_true]
  repeat' apply And.intro
  all_goals first
    | with_reducible exact f_mayEnter
    | with_reducible exact f_laid
    | with_reducible exact f_maps
    | with_reducible exact f_heard
    | with_reducible exact f_make
    | with_reducible exact f_lifts
    | with_reducible exact f_plain
    | with_reducible exact g_namedEvalLaziness
    | with_reducible exact g_inPlaceEvalLaziness
    | with_reducible exact g_unfollowedEvalLaziness
    | with_reducible exact g_recursesEvalLaziness
    | kernel_rfl

theorem over : Rows.evalLazinessRow.holds Tryz.pinned (OpenSpec.ofChange Rows.evalLazinessSpec) :=
  OpenClaim.holds_of_wide 12 Tryz.f12 rfl rfl rfl rfl rfl rfl rfl ⟨rfl, rfl, rfl, rfl, rfl⟩ rfl rfl rfl rfl rfl (by kernel_rfl) Tryz.func12 closed
    (of_decide_eq_true (by kernel_rfl)) (by unfold Func.isWrapper; first | (rw [if_pos (by decide +kernel)]; kernel_rfl) | (rw [if_neg (by decide +kernel)]; exact ⟨rfl, rfl⟩))
    (fun os started H enc _ => lifted os started H enc)

theorem proved : Rows.EvalLazinessSaid :=
  over
end Go.Proofs.YtmjaimpkjjkliaaGreat.evalLaziness
