/- The function Pick: what it answers. -/
import Derived.Test.YtmjaimpkjjkliaaAmM17
namespace Go.Am
variable {P : Program} {M : Mp}

/-- Pick, compiled. -/
def pickFn : CFn := ⟨(.seq (.reg [⟨(some 4), none, .mv (.c (.int .i64 0))⟩]) (.seq (.reg [⟨(some 5), none, .mv (.t 0)⟩, ⟨(some 6), none, .mv (.t 1)⟩, ⟨(some 7), none, .bin .rem (.t 5) (.t 6)⟩, ⟨(some 0), none, .mv (.t 7)⟩]) (.seq (.seq (.reg [⟨(some 8), none, .mv (.t 0)⟩, ⟨(some 9), none, .bin .lss (.t 8) (.c (.int .i64 0))⟩]) (.cond (.t 9) (.reg [⟨(some 10), none, .mv (.t 0)⟩, ⟨(some 11), none, .mv (.t 1)⟩, ⟨(some 12), none, .bin .add (.t 10) (.t 11)⟩, ⟨(some 0), none, .mv (.t 12)⟩]) .skip)) (.seq (.reg [⟨(some 13), none, .mv (.t 0)⟩, ⟨(some 4), none, .mv (.t 13)⟩]) .ret)))), [.tmp 4]⟩

theorem wrap_of_range {n : Int} (h1 : 0 ≤ n) (h2 : n < 9223372036854775808) : IntKind.wrap .i64 n = n := by
  have := wrap_nat .i64 n.toNat (by simp [kmax]; omega)
  rw [show Int.ofNat n.toNat = n by simp; omega] at this
  exact this

theorem pick_run {ora : Caller} {fns : Tr CFn} (n : Nat) (x m : Int) (hm : 0 < m) (hm2 : m < 4611686018427387904) (s : S) :
    fin pickFn.res (runF ora fns (n + 6) pickFn.body (argsTm 0 [.int .i64 x, .int .i64 m] .nil) s) = some (.int .i64 (x % m), s) := by
  have hne : ¬ m = 0 := by omega
  have key : (if x.tmod m < 0 then IntKind.wrap .i64 (x.tmod m + m) else x.tmod m) = x % m := by
    have h3 : x.tmod m = if 0 ≤ x ∨ m ∣ x then x % m else x % m - m := by
      rw [Int.tmod_eq_emod]
      split
      · simp
      · rw [show (m.natAbs : Int) = m by omega]
    have h4 := Int.emod_nonneg x hne
    have h5 := Int.emod_lt_of_pos x hm
    rw [h3]
    by_cases hc : 0 ≤ x ∨ m ∣ x
    · rw [if_pos hc, if_neg (by omega)]
    · rw [if_neg hc, if_pos (by omega), show x % m - m + m = x % m by omega]
      exact wrap_of_range h4 (by omega)
  generalize ht0 : argsTm 0 [.int .i64 x, .int .i64 m] .nil = t0
  have e0 : t0.at_ 0 = .int .i64 x := by rw [← ht0]; simp [argsTm_at]
  have e1 : t0.at_ 1 = .int .i64 m := by rw [← ht0]; simp [argsTm_at]
  have hb : bin .rem (.int .i64 x) (.int .i64 m) = some (.int .i64 (x.tmod m)) := by simp [bin, intBin, hne]
  have hl : bin .lss (.int .i64 (x.tmod m)) (.int .i64 0) = some (.bool (decide (x.tmod m < 0))) := by simp [bin, intBin]
  have ha : bin .add (.int .i64 (x.tmod m)) (.int .i64 m) = some (.int .i64 (IntKind.wrap .i64 (x.tmod m + m))) := by simp [bin, intBin]
  show fin [.tmp 4] (runF ora fns (n + 6) (.seq (.reg _) (.seq (.reg _) (.seq (.seq (.reg _) (.cond (.t 9) (.reg _) .skip)) (.seq (.reg _) .ret)))) t0 s) = _
  rw [runF_seq (n := n + 5) (tm' := t0.set 4 (.int .i64 0)) (s' := s) (runF_reg (n := n + 4) (by
    simp only [runOps, wanted, cond_true, Am.execOp, AOp.kind, pureOp, X.ev, put]))]
  rw [runF_seq (n := n + 4) (tm' := (((((t0.set 4 (.int .i64 0)).set 5 (.int .i64 x)).set 6 (.int .i64 m)).set 7 (.int .i64 (x.tmod m))).set 0 (.int .i64 (x.tmod m)))) (s' := s) (runF_reg (n := n + 3) (by
    simp only [runOps, wanted, cond_true, Am.execOp, AOp.kind, pureOp, X.ev, put, at_set, e0, e1]
    simp [hb]))]
  generalize ht1 : (((((t0.set 4 (.int .i64 0)).set 5 (.int .i64 x)).set 6 (.int .i64 m)).set 7 (.int .i64 (x.tmod m))).set 0 (.int .i64 (x.tmod m))) = t1
  have f0 : Tm.at_ t1 0 = .int .i64 (x.tmod m) := by rw [← ht1]; simp [at_set]
  have f1 : Tm.at_ t1 1 = .int .i64 m := by rw [← ht1]; simp [at_set, e1]
  have hmid : ∃ t2 : Tm, runF ora fns (n + 3) (.seq (.reg [⟨(some 8), none, .mv (.t 0)⟩, ⟨(some 9), none, .bin .lss (.t 8) (.c (.int .i64 0))⟩]) (.cond (.t 9) (.reg [⟨(some 10), none, .mv (.t 0)⟩, ⟨(some 11), none, .mv (.t 1)⟩, ⟨(some 12), none, .bin .add (.t 10) (.t 11)⟩, ⟨(some 0), none, .mv (.t 12)⟩]) .skip)) t1 s = some (.normal, t2, s) ∧ Tm.at_ t2 0 = .int .i64 (x % m) := by
    rw [runF_seq (n := n + 2) (tm' := (t1.set 8 (.int .i64 (x.tmod m))).set 9 (.bool (decide (x.tmod m < 0)))) (s' := s) (runF_reg (n := n + 1) (by
      simp only [runOps, wanted, cond_true, Am.execOp, AOp.kind, pureOp, X.ev, put, at_set, f0]
      simp [hl]))]
    by_cases h : x.tmod m < 0
    · rw [if_pos h] at key
      rw [runF_true (by simp [X.ev, at_set, h])]
      refine ⟨_, runF_reg (n := n) (by
        simp only [runOps, wanted, cond_true, Am.execOp, AOp.kind, pureOp, X.ev, put, at_set, f0, f1]
        simp [ha]
        rfl), ?_⟩
      simp [at_set, key]
    · rw [if_neg h] at key
      rw [runF_false (by simp [X.ev, at_set, h])]
      exact ⟨_, runF_skip _ _ _ _ _, by simp [at_set, f0, key]⟩
  obtain ⟨t2, h2, h3⟩ := hmid
  rw [runF_seq (n := n + 3) h2]
  rw [runF_seq (n := n + 2) (tm' := (t2.set 13 (.int .i64 (x % m))).set 4 (.int .i64 (x % m))) (s' := s) (runF_reg (n := n + 1) (by
    simp only [runOps, wanted, cond_true, Am.execOp, AOp.kind, pureOp, X.ev, put, at_set, h3]
    simp))]
  rw [runF_ret]
  simp [fin, resVs, oneOf, at_set]
end Go.Am
