/- IRLoops: the step to the number that it picks. -/
import Derived.Test.YtmjaimpkjjkliaaAmOra
namespace Go.Am.Ytmjaimpkjjkliaa
open Go.Proofs

def ilRest : ACode := (match c10.body with | .seq _ (.seq _ r) => r | _ => .skip)
noncomputable def ilTm (a : Int) (x y : Bool) (i : Int) : Tm :=
  (((((argsTm 0 [.int .i64 a, .bool x, .bool y] .nil).set 6 (.bool false)).set 13 (.int .i64 a)).set 14 (.int .i64 i)).set 15 (.int .i64 (1 + i))).set 0 (.int .i64 (1 + i))

theorem table10 : fns.get 10 = some c10 := by kernel_rfl
theorem body10 : c10.body = .seq (.reg [⟨some 6, none, .mv (.c (.bool false))⟩]) (.seq (.reg [⟨some 13, none, .mv (.t 0)⟩, ⟨some 14, none, .call 19 [.t 13, .c (.int .i64 17)]⟩, ⟨some 15, none, .bin .add (.c (.int .i64 1)) (.t 14)⟩,
    ⟨some 0, none, .mv (.t 15)⟩]) ilRest) := by kernel_rfl

/-- What is left when the number is picked. -/
noncomputable def ilLeft (p : Int → Int → Int) (a : Int) (x y : Bool) (i : Int) : Bool := isTrue (fin c10.res (runF (ora p) fns 1000000 ilRest (ilTm a x y i) ⟨.nil, 0⟩))

theorem ilStep (p : Int → Int → Int) (a : Int) (x y : Bool) (i : Int) (h0 : p a 17 = i) (hi : 0 ≤ i) (hi2 : i < 17) (h : ilLeft p a x y i = true) :
    isTrue (callFF (ora p) fns 1000002 10 [.int .i64 a, .bool x, .bool y] ⟨.nil, 0⟩) = true := by
  unfold callFF
  rw [callR_table (show ora p 10 _ _ = none from rfl) table10, body10]
  generalize ht0 : argsTm 0 [.int .i64 a, .bool x, .bool y] .nil = t0
  have e0 : Tm.at_ t0 0 = .int .i64 a := by rw [← ht0]; simp [argsTm_at]
  have hc : ∀ (rec_ : ACode → Tm → S → Option (Ex × Tm × S)) (x : Int) (s : S), callR (ora p) fns rec_ 19 [.int .i64 x, .int .i64 17] s = some (.int .i64 (p x 17), s) := fun _ _ _ => rfl
  have ha : bin .add (.int .i64 1) (.int .i64 i) = some (.int .i64 (1 + i)) := by
    have := wrap_of_range (n := 1 + i) (by omega) (by omega)
    simp [bin, intBin, this]
  rw [runF_seq (n := 1000001) (tm' := t0.set 6 (.bool false)) (s' := ⟨.nil, 0⟩) (runF_reg (n := 1000000) (by
    simp only [runOps, wanted, cond_true, Am.execOp, AOp.kind, pureOp, X.ev, put]))]
  rw [runF_seq (n := 1000000) (tm' := ilTm a x y i) (s' := ⟨.nil, 0⟩) (runF_reg (n := 999999) (by
    simp only [runOps, wanted, cond_true, Am.execOp, AOp.kind, pureOp, callOp, evs, X.ev, put, at_set, e0]
    simp [hc, h0, ilTm, ht0, ha]))]
  exact h
end Go.Am.Ytmjaimpkjjkliaa
