/- The example of chapter 9: the law's own code, over its parts. -/
import Derived.Test.YtmjaimpkjjkliaaGreatEe1
import Derived.Test.YtmjaimpkjjkliaaGreatEe2
import Derived.Test.YtmjaimpkjjkliaaGreatEe3
import Derived.Test.YtmjaimpkjjkliaaGreatEe4
import Derived.Test.YtmjaimpkjjkliaaGreatVee
namespace Go.Am.YtmjaimpkjjkliaaGreat
open Go.Proofs
set_option maxRecDepth 100000

theorem ex_same1 : Pu Pg F.fullingref3_SameOutcome [.agg [.int .i64 2, .int .i64 1, .emp, .int .i64 0], .agg [.int .i64 2, .int .i64 1, .nils, .int .i64 0]] (.bool true) := Pu.eval (fastOK noOra_ok 1000000) (n := 40) (by kernel_rfl)
theorem ex_same2 : Pu Pg F.fullingref3_SameOutcome [.agg [.int .i64 1, .int .i64 0, .lit [.int .i64 0, .int .i64 1] 2, .int .i64 2], .agg [.int .i64 1, .int .i64 0, .lit [.int .i64 0, .int .i64 1] 2, .int .i64 2]] (.bool true) := Pu.eval (fastOK noOra_ok 1000000) (n := 40) (by kernel_rfl)
theorem ex_same3 : Pu Pg F.fullingref3_SameOutcome [.agg [.int .i64 3, .int .i64 0, .lit [.int .i64 0] 1, .int .i64 0], .agg [.int .i64 3, .int .i64 0, .lit [.int .i64 0] 1, .int .i64 0]] (.bool true) := Pu.eval (fastOK noOra_ok 1000000) (n := 40) (by kernel_rfl)

theorem okP : exProg.ok = true := rfl
theorem lenP : exProg.cells.length = 2 := rfl
theorem okcP : okCells exProg.cells = true := rfl
theorem exU : ∃ a b, exUnit = .agg [a, b] ∧ okCell a = true ∧ okCell b = true := ⟨_, _, rfl, rfl, rfl⟩
theorem exP : ∃ a b, exProg = .agg [a, b] ∧ okCell a = true ∧ okCell b = true := ⟨_, _, rfl, rfl, rfl⟩
theorem exPl : V.litss [exProg] = true := by kernel_rfl
theorem exUl : V.lits exUnit = true := by kernel_rfl

theorem ex_all : Pu Pg F.fullinglaw9_EvalExamples [] (.bool true) := by
  refine Pu.fl fullinglaw9_EvalExamples_k rfl (fullinglaw9_EvalExamples_c (fullinglaw9_EvalExamples.p0_s fun hw => ?_))
  refine ex_parse.c (CvL.lits _ (by kernel_rfl)) ?_
  obtain ⟨pa, pb, hp, hpa, hpb⟩ := exP
  obtain ⟨ua, ub, hu, hua, hub⟩ := exU
  have hpl := exPl
  have hul := exUl
  have hlow := ex_lower
  have hr2 := ex_run2
  have hr3 := ex_run3
  have hr4 := ex_run4
  generalize exProg = xp at *
  generalize exUnit = xu at *
  subst hp; subst hu
  show bo (some _) _
  rw [bo_some]
  show bo (some _) _
  rw [bo_some]
  refine is_nil.box rfl fun s1 h1 => ?_
  refine h1.box rfl fun s2 h2 => ?_
  refine h2.store (id := 0) rfl rfl rfl (by simp [V.cells, okCells, hpa, hpb]) (by decide) fun s3 h3 => ?_
  refine h3.store (id := 1) rfl rfl rfl rfl (by decide) fun s4 h4 => ?_
  refine h4.loadk (id := 0) rfl (by decide) (by decide) ?_
  refine hlow.c (CvL.lits _ hpl) ?_
  show bo (some _) _
  rw [bo_some]
  show bo (some _) _
  rw [bo_some]
  refine h4.box rfl fun s5 h5 => ?_
  refine h5.store (id := 2) rfl rfl rfl (by simp [V.cells, okCells, hua, hub]) (by decide) fun s6 h6 => ?_
  refine h6.loadk (id := 2) rfl (by decide) (by decide) ?_
  refine h6.bslice rfl rfl fun s7 h7 => ?_
  refine C.pre (id := 3) (by rw [h7.get]; rfl) (.cons (.refl _) (.cons (.refl _) (.cons (h7.dzsl (id := 3) rfl) (.cons (.refl _) .nil)))) ?_
  have h8 := h7.kill (id := 3) rfl
  generalize s7.kill 3 = s8 at h8 ⊢
  refine hr2.c (.cons (Cv.lits _ hul) (.cons (.str _) (.cons (Cv.lits _ rfl) (.cons (.int _ _) .nil)))) ?_
  show bo (some _) _
  rw [bo_some]
  refine ex_same1.c (CvL.lits _ rfl) ?_
  rw [br_bool, if_pos rfl]
  refine h8.loadk (id := 2) rfl (by decide) (by decide) ?_
  refine h8.bslice rfl rfl fun s9 h9 => ?_
  refine C.pre (id := 4) (by rw [h9.get]; rfl) (.cons (.refl _) (.cons (.refl _) (.cons (h9.dzsl (id := 4) rfl) (.cons (.refl _) .nil)))) ?_
  have h10 := h9.kill (id := 4) rfl
  generalize s9.kill 4 = s10 at h10 ⊢
  refine hr3.c (.cons (Cv.lits _ hul) (.cons (.str _) (.cons (Cv.lits _ rfl) (.cons (.int _ _) .nil)))) ?_
  refine h10.bslice rfl rfl fun s11 h11 => ?_
  show bo (some _) _
  rw [bo_some]
  refine ex_same2.s rfl (.cons (Cv.lits _ rfl).fz (.cons (.agg (.cons (Cv.int _ _).fz (.cons (Cv.int _ _).fz (.cons (h11.fzsl (id := 5) rfl (Nat.le_refl _) (CvL.lits _ rfl).fz) (.cons (Cv.int _ _).fz .nil))))) .nil)) ?_
  refine fullinglaw9_EvalExamples.p1_s fun _ => ?_
  rw [br_bool, if_pos rfl]
  refine h11.loadk (id := 2) rfl (by decide) (by decide) ?_
  refine h11.bslice rfl rfl fun s12 h12 => ?_
  refine C.pre (id := 6) (by rw [h12.get]; rfl) (.cons (.refl _) (.cons (.refl _) (.cons (h12.dzsl (id := 6) rfl) (.cons (.refl _) .nil)))) ?_
  have h13 := h12.kill (id := 6) rfl
  generalize s12.kill 6 = s13 at h13 ⊢
  refine hr4.c (.cons (Cv.lits _ hul) (.cons (.str _) (.cons (Cv.lits _ rfl) (.cons (.int _ _) .nil)))) ?_
  refine h13.bslice rfl rfl fun s14 h14 => ?_
  show bo (some _) _
  rw [bo_some]
  exact ex_same3.s rfl (.cons (Cv.lits _ rfl).fz (.cons (.agg (.cons (Cv.int _ _).fz (.cons (Cv.int _ _).fz (.cons (h14.fzsl (id := 7) rfl (Nat.le_refl _) (CvL.lits _ rfl).fz) (.cons (Cv.int _ _).fz .nil))))) .nil)) rfl
end Go.Am.YtmjaimpkjjkliaaGreat
