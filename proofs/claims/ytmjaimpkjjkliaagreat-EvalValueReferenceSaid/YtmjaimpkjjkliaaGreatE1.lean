/- The example of chapter 9, by parts: the program and its graphs, by evaluation. -/
import Derived.Test.YtmjaimpkjjkliaaGreatAmTab
import Derived.Test.YtmjaimpkjjkliaaGreatAmM25
import Derived.Test.YtmjaimpkjjkliaaGreatVb
import Derived.Test.YtmjaimpkjjkliaaGreatVee
namespace Go.Am.YtmjaimpkjjkliaaGreat
open Go.Proofs
set_option maxRecDepth 100000
def exText : V := .str [102, 117, 110, 99, 32, 102, 40, 120, 41, 32, 123, 32, 114, 101, 116, 117, 114, 110, 32, 49, 32, 47, 32, 120, 59, 32, 125, 32, 102, 117, 110, 99, 32, 103, 40, 110, 41, 32, 118, 97, 114, 32, 105, 32, 123, 32, 119, 104, 105, 108, 101, 32, 40, 105, 32, 60, 32, 110, 41, 32, 123, 32, 111, 117, 116, 32, 105, 59, 32, 105, 32, 61, 32, 105, 32, 43, 32, 49, 59, 32, 125, 32, 114, 101, 116, 117, 114, 110, 32, 105, 59, 32, 125]
def exProg : V := (.agg [.emp, (.lit [(.str [102]), (.lit [(.str [120])] 1), .emp, .emp, (.int .i64 4), (.int .i64 0), (.str []), (.int .i64 7), (.lit [(.int .i64 1), (.int .i64 1), (.str []), (.int .i64 0), .emp, (.int .i64 2), (.int .i64 0), (.str [120]), (.int .i64 0), .emp] 2), (.str [103]), (.lit [(.str [110])] 1), (.lit [(.str [105])] 1), (.lit [(.int .i64 4), (.str []), (.str []), (.int .i64 0), (.int .i64 0), (.int .i64 0), (.str []), (.int .i64 0), .emp, (.int .i64 4), (.int .i64 0), (.str []), (.int .i64 17), (.lit [(.int .i64 2), (.int .i64 0), (.str [105]), (.int .i64 0), .emp, (.int .i64 2), (.int .i64 0), (.str [110]), (.int .i64 0), .emp] 2), .emp, (.lit [(.int .i64 5), (.str []), (.str []), (.int .i64 0), (.int .i64 0), (.int .i64 0), (.str []), (.int .i64 0), .emp, (.int .i64 2), (.int .i64 0), (.str [105]), (.int .i64 0), .emp, .emp, .emp, .emp, (.int .i64 1), (.str [105]), (.str []), (.int .i64 0), (.int .i64 0), (.int .i64 0), (.str []), (.int .i64 0), .emp, (.int .i64 4), (.int .i64 0), (.str []), (.int .i64 4), (.lit [(.int .i64 2), (.int .i64 0), (.str [105]), (.int .i64 0), .emp, (.int .i64 1), (.int .i64 1), (.str []), (.int .i64 0), .emp] 2), .emp, .emp, .emp] 2), .emp] 1), (.int .i64 2), (.int .i64 0), (.str [105]), (.int .i64 0), .emp] 2)])
def exUnit : V := (.agg [.emp, (.lit [(.str [102]), (.int .i64 1), (.lit [(.int .i64 26), (.int .i64 0), .emp, (.int .i64 2), (.int .i64 0), .emp, (.int .i64 1), (.int .i64 1), .emp, (.int .i64 1), (.int .i64 0), .emp, (.int .i64 16), (.int .i64 0), (.lit [(.int .i64 1), (.int .i64 3)] 2), (.int .i64 27), (.int .i64 1), (.lit [(.int .i64 0), (.int .i64 4)] 2), (.int .i64 7), (.int .i64 0), (.lit [(.int .i64 2), (.int .i64 1)] 2)] 7), (.int .i64 6), (.int .i64 5), (.str [103]), (.int .i64 1), (.lit [(.int .i64 26), (.int .i64 0), .emp, (.int .i64 2), (.int .i64 0), .emp, (.int .i64 1), (.int .i64 0), .emp, (.int .i64 17), (.int .i64 0), (.lit [(.int .i64 2), (.int .i64 1)] 2), (.int .i64 3), (.int .i64 0), .emp, (.int .i64 3), (.int .i64 1), .emp, (.int .i64 29), (.int .i64 0), (.lit [(.int .i64 4), (.int .i64 5)] 2), (.int .i64 1), (.int .i64 1), .emp, (.int .i64 4), (.int .i64 0), (.lit [(.int .i64 5), (.int .i64 7)] 2), (.int .i64 17), (.int .i64 0), (.lit [(.int .i64 8), (.int .i64 1)] 2), (.int .i64 31), (.int .i64 0), (.lit [(.int .i64 0), (.int .i64 2), (.int .i64 9), (.int .i64 6), (.int .i64 8)] 5), (.int .i64 25), (.int .i64 0), (.lit [(.int .i64 10)] 1), (.int .i64 22), (.int .i64 0), (.lit [(.int .i64 3), (.int .i64 11), (.int .i64 0)] 3), (.int .i64 25), (.int .i64 1), (.lit [(.int .i64 10)] 1), (.int .i64 22), (.int .i64 0), (.lit [(.int .i64 3), (.int .i64 13), (.int .i64 2)] 3)] 15), (.int .i64 14), (.int .i64 12)] 2)])
theorem ex_parse : Pu Pg F.r3_Parse [exText] (.tup [exProg, (.agg [(.int .i64 0), (.int .i64 0)])]) := Pu.eval (fastOK noOra_ok 1000000) (n := 40) (by kernel_rfl)
theorem ex_lower : Pu Pg F.r7_Lower [exProg] (.tup [exUnit, (.int .i64 0)]) := Pu.eval (fastOK noOra_ok 1000000) (n := 40) (by kernel_rfl)
end Go.Am.YtmjaimpkjjkliaaGreat
namespace Go.Am.YtmjaimpkjjkliaaGreat
open Go.Proofs
set_option maxRecDepth 100000
theorem ex_run2 : Pu Pg F.eval_Run [exUnit, .str [102], .lit [.int .i64 0] 1, .int .i64 0] (.agg [(.int .i64 2), (.int .i64 1), .emp, (.int .i64 0)]) := Pu.eval (fastOK noOra_ok 1000000) (n := 40) (by kernel_rfl)
end Go.Am.YtmjaimpkjjkliaaGreat
namespace Go.Am.YtmjaimpkjjkliaaGreat
open Go.Proofs
set_option maxRecDepth 100000
theorem ex_run3 : Pu Pg F.eval_Run [exUnit, .str [103], .lit [.int .i64 2] 1, .int .i64 5] (.agg [(.int .i64 1), (.int .i64 0), (.lit [(.int .i64 0), (.int .i64 1)] 2), (.int .i64 2)]) := Pu.eval (fastOK noOra_ok 1000000) (n := 40) (by kernel_rfl)
end Go.Am.YtmjaimpkjjkliaaGreat
namespace Go.Am.YtmjaimpkjjkliaaGreat
open Go.Proofs
set_option maxRecDepth 100000
theorem ex_run4 : Pu Pg F.eval_Run [exUnit, .str [103], .lit [.int .i64 9] 1, .int .i64 1] (.agg [(.int .i64 3), (.int .i64 0), (.lit [(.int .i64 0)] 1), (.int .i64 0)]) := Pu.eval (fastOK noOra_ok 1000000) (n := 40) (by kernel_rfl)
end Go.Am.YtmjaimpkjjkliaaGreat
namespace Go.Am.YtmjaimpkjjkliaaGreat
open Go.Proofs
set_option maxRecDepth 100000

theorem ex_same1 : Pu Pg F.r3_SameOutcome [.agg [.int .i64 2, .int .i64 1, .emp, .int .i64 0], .agg [.int .i64 2, .int .i64 1, .nils, .int .i64 0]] (.bool true) := Pu.eval (fastOK noOra_ok 1000000) (n := 40) (by kernel_rfl)
theorem ex_same2 : Pu Pg F.r3_SameOutcome [.agg [.int .i64 1, .int .i64 0, .lit [.int .i64 0, .int .i64 1] 2, .int .i64 2], .agg [.int .i64 1, .int .i64 0, .lit [.int .i64 0, .int .i64 1] 2, .int .i64 2]] (.bool true) := Pu.eval (fastOK noOra_ok 1000000) (n := 40) (by kernel_rfl)
theorem ex_same3 : Pu Pg F.r3_SameOutcome [.agg [.int .i64 3, .int .i64 0, .lit [.int .i64 0] 1, .int .i64 0], .agg [.int .i64 3, .int .i64 0, .lit [.int .i64 0] 1, .int .i64 0]] (.bool true) := Pu.eval (fastOK noOra_ok 1000000) (n := 40) (by kernel_rfl)

theorem okP : exProg.ok = true := rfl
theorem lenP : exProg.cells.length = 2 := rfl
theorem okcP : okCells exProg.cells = true := rfl
theorem exU : ∃ a b, exUnit = .agg [a, b] ∧ okCell a = true ∧ okCell b = true := ⟨_, _, rfl, rfl, rfl⟩
theorem exP : ∃ a b, exProg = .agg [a, b] ∧ okCell a = true ∧ okCell b = true := ⟨_, _, rfl, rfl, rfl⟩
theorem exPl : V.litss [exProg] = true := by kernel_rfl
theorem exUl : V.lits exUnit = true := by kernel_rfl

theorem ex_all : Pu Pg F.l9_EvalExamples [] (.bool true) := by
  refine Pu.fl l9_EvalExamples_k rfl (l9_EvalExamples_c (l9_EvalExamples.p0_s fun hw => ?_))
  refine ex_parse.c (CvL.lits _ (by kernel_rfl)) ?_
  obtain ⟨pa, pb, hp, hpa, hpb⟩ := exP
  obtain ⟨ua, ub, hu, hua, hub⟩ := exU
  have hpl := exPl
  have hul := exUl
  have hlow := ex_lower
  have hr2 := ex_run2
  have hr3 := ex_run3
  have hr4 := ex_run4
  generalize exProg = xp at *
  generalize exUnit = xu at *
  subst hp; subst hu
  show bo (some _) _
  rw [bo_some]
  show bo (some _) _
  rw [bo_some]
  refine is_nil.box rfl fun s1 h1 => ?_
  refine h1.box rfl fun s2 h2 => ?_
  refine h2.store (id := 0) rfl rfl rfl (by simp [V.cells, okCells, hpa, hpb]) (by decide) fun s3 h3 => ?_
  refine h3.store (id := 1) rfl rfl rfl rfl (by decide) fun s4 h4 => ?_
  refine h4.loadk (id := 0) rfl (by decide) (by decide) ?_
  refine hlow.c (CvL.lits _ hpl) ?_
  show bo (some _) _
  rw [bo_some]
  show bo (some _) _
  rw [bo_some]
  refine h4.box rfl fun s5 h5 => ?_
  refine h5.store (id := 2) rfl rfl rfl (by simp [V.cells, okCells, hua, hub]) (by decide) fun s6 h6 => ?_
  refine h6.loadk (id := 2) rfl (by decide) (by decide) ?_
  refine h6.bslice rfl rfl fun s7 h7 => ?_
  refine C.pre (id := 3) (by rw [h7.get]; rfl) (.cons (.refl _) (.cons (.refl _) (.cons (h7.dzsl (id := 3) rfl) (.cons (.refl _) .nil)))) ?_
  have h8 := h7.kill (id := 3) rfl
  generalize s7.kill 3 = s8 at h8 ⊢
  refine hr2.c (.cons (Cv.lits _ hul) (.cons (.str _) (.cons (Cv.lits _ rfl) (.cons (.int _ _) .nil)))) ?_
  show bo (some _) _
  rw [bo_some]
  refine ex_same1.c (CvL.lits _ rfl) ?_
  rw [br_bool, if_pos rfl]
  refine h8.loadk (id := 2) rfl (by decide) (by decide) ?_
  refine h8.bslice rfl rfl fun s9 h9 => ?_
  refine C.pre (id := 4) (by rw [h9.get]; rfl) (.cons (.refl _) (.cons (.refl _) (.cons (h9.dzsl (id := 4) rfl) (.cons (.refl _) .nil)))) ?_
  have h10 := h9.kill (id := 4) rfl
  generalize s9.kill 4 = s10 at h10 ⊢
  refine hr3.c (.cons (Cv.lits _ hul) (.cons (.str _) (.cons (Cv.lits _ rfl) (.cons (.int _ _) .nil)))) ?_
  refine h10.bslice rfl rfl fun s11 h11 => ?_
  show bo (some _) _
  rw [bo_some]
  refine ex_same2.s rfl (.cons (Cv.lits _ rfl).fz (.cons (.agg (.cons (Cv.int _ _).fz (.cons (Cv.int _ _).fz (.cons (h11.fzsl (id := 5) rfl (Nat.le_refl _) (CvL.lits _ rfl).fz) (.cons (Cv.int _ _).fz .nil))))) .nil)) ?_
  refine l9_EvalExamples.p1_s fun _ => ?_
  rw [br_bool, if_pos rfl]
  refine h11.loadk (id := 2) rfl (by decide) (by decide) ?_
  refine h11.bslice rfl rfl fun s12 h12 => ?_
  refine C.pre (id := 6) (by rw [h12.get]; rfl) (.cons (.refl _) (.cons (.refl _) (.cons (h12.dzsl (id := 6) rfl) (.cons (.refl _) .nil)))) ?_
  have h13 := h12.kill (id := 6) rfl
  generalize s12.kill 6 = s13 at h13 ⊢
  refine hr4.c (.cons (Cv.lits _ hul) (.cons (.str _) (.cons (Cv.lits _ rfl) (.cons (.int _ _) .nil)))) ?_
  refine h13.bslice rfl rfl fun s14 h14 => ?_
  show bo (some _) _
  rw [bo_some]
  exact ex_same3.s rfl (.cons (Cv.lits _ rfl).fz (.cons (.agg (.cons (Cv.int _ _).fz (.cons (Cv.int _ _).fz (.cons (h14.fzsl (id := 7) rfl (Nat.le_refl _) (CvL.lits _ rfl).fz) (.cons (Cv.int _ _).fz .nil))))) .nil)) rfl
end Go.Am.YtmjaimpkjjkliaaGreat
