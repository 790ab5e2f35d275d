/- Chapter 7, the program: Arity, match, the sorts' parts. -/
import Derived.Test.YtmjaimpkjjkliaaVir
import Derived.Test.YtmjaimpkjjkliaaAmM24
namespace Go.Am.Ytmjaimpkjjkliaa
open Go.Proofs
set_option linter.unusedVariables false

def arityS (op : Int) : Int × Bool :=
  if op = 1 ∨ op = 2 ∨ op = 3 ∨ op = 26 then (0, true)
  else if op = 20 ∨ op = 21 ∨ op = 24 ∨ op = 25 then (1, true)
  else if op = 23 ∨ op = 27 ∨ op = 29 then (2, true)
  else if op = 22 ∨ op = 28 then (3, true)
  else if op = 30 ∨ op = 31 then (-1, true)
  else if 4 ≤ op ∧ op ≤ 19 then (2, true)
  else (0, false)

theorem ir_Arity_pu (op : Int) : Pu Pg F.ir_Arity [.int .i64 op] (.tup [.int .i64 (arityS op).1, .bool (arityS op).2]) := by
  refine Pu.fl ir_Arity_k rfl (ir_Arity_c (ir_Arity.p0_s fun _ => ?_))
  repeat' first
    | (refine ir_Arity.p1_s fun _ => ?_)
    | (refine ir_Arity.p2_s fun _ => ?_)
    | (refine ir_Arity.p3_s fun _ => ?_)
    | (refine ir_Arity.p4_s fun _ => ?_)
    | (refine ir_Arity.p5_s fun _ => ?_)
    | (refine ir_Arity.p6_s fun _ => ?_)
    | split
    | simp only [bin_eql, bin_geq, bin_leq, bo_some, br_bool, decide_eq_true_eq]
  all_goals simp_all [arityS]
  all_goals first | omega | (split <;> (try simp_all) <;> omega)

/-! ### loopVars -/
def lv (n : Nat) : Nat := (n - 1) / 2
theorem tdiv_lv (n : Nat) : ((n : Int) - 1).tdiv 2 = (lv n : Int) := by
  cases n with
  | zero => rfl
  | succ n =>
    rw [show ((n + 1 : Nat) : Int) - 1 = (n : Int) by omega]
    rfl
theorem ir_loopVars_pu (n : Nat) (h : n < 1073741824) : Pu Pg F.ir_loopVars [.int .i64 (n : Int)] (.int .i64 (lv n : Int)) := by
  refine Pu.fl ir_loopVars_k rfl (ir_loopVars_c (ir_loopVars.p0_s fun _ => ?_))
  rw [bin_sub (by omega) (by omega), bo_some]
  have hl : lv n ≤ n := by unfold lv; omega
  rw [bin_quo (by decide) (by rw [tdiv_lv]; omega) (by rw [tdiv_lv]; omega), bo_some, tdiv_lv]

/-! ### match -/
def matchS : List Int → List Int → Bool
  | [], _ => true
  | _ :: _, [] => false
  | a :: s, b :: w => decide (a = b) && matchS s w
theorem matchS_drop {s w : List Int} {i : Nat} (h1 : i < s.length) (h2 : i < w.length) : matchS (s.drop i) (w.drop i) = (decide (s.getD i 0 = w.getD i 0) && matchS (s.drop (i + 1)) (w.drop (i + 1))) := by
  rw [drop_getD s i h1, drop_getD w i h2]; rfl
theorem ir_match_p1 {s w : List Int} (h : s.length ≤ w.length) (hb : s.length < 1073741824) {R : V → S → Prop} {st : S} : ∀ n i, s.length - i = n → i ≤ s.length → R (.bool (matchS (s.drop i) (w.drop i))) st →
    ir_match.p1 R (eInts s) (eInts w) (.int .i64 (i : Int)) st := by
  intro n
  induction n with
  | zero =>
    intro i hn hi hR
    obtain rfl : i = s.length := by omega
    refine ir_match.p1_s fun _ => ?_
    simpa [matchS] using hR
  | succ n ih =>
    intro i hn hi hR
    have h1 : i < s.length := by omega
    have h2 : i < w.length := by omega
    rw [matchS_drop h1 h2] at hR
    refine ir_match.p1_s fun _ => ?_
    simp only [vLen_eS, bo_some, bin_lss, br_bool, decide_eq_true_eq, Int.ofNat_lt]
    rw [if_pos h1]
    refine get_int h1 (get_int h2 ?_)
    simp only [bo_some, bin_neq, br_bool]
    by_cases hx : s.getD i 0 = w.getD i 0
    · simp only [hx, decide_true, Bool.not_true, Bool.false_eq_true, if_false, Bool.true_and] at hR ⊢
      rw [bin_inc (by omega), bo_some]
      exact ih (i + 1) (by omega) (by omega) hR
    · simp only [hx, decide_false, Bool.not_false, if_true, Bool.false_and] at hR ⊢
      exact hR
theorem ir_match_pu {s w : List Int} (h : s.length ≤ w.length) (hb : s.length < 1073741824) : Pu Pg F.ir_match [eInts s, eInts w] (.bool (matchS s w)) := by
  refine Pu.fl ir_match_k rfl (ir_match_c (ir_match.p0_s fun _ => ?_))
  exact ir_match_p1 h hb s.length 0 rfl (Nat.zero_le _) rfl

/-! ### operandSorts -/
def operandSortsS (op : Int) : List Int :=
  if op = 22 then [1, 1, 1] else if op = 23 ∨ op = 27 ∨ op = 29 then [2, 1] else if op = 28 then [2, 1, 1] else if op = 24 then [2] else if op = 25 then [3] else [1, 1]
theorem fz_new {s : S} {l : List Int} {n : Nat} (hl : n = l.length) : Fz (s.new (.row (l.map fun n => V.int .i64 n) 0 0)).h (.sl s.n 0 0 n 1) (eInts l) :=
  Ls.ints (s := s.new _) (.of (by simp [hl]) S.get_new_self (Nat.le_refl _))
theorem ir_operandSorts_pu (op : Int) : Pu Pg F.ir_operandSorts [.int .i64 op] (eInts (operandSortsS op)) := by
  refine Pu.fz ir_operandSorts_k (ir_operandSorts_c (ir_operandSorts.p0_s fun _ => ?_))
  repeat' first
    | (refine ir_operandSorts.p1_s fun _ => ?_)
    | split
    | simp only [bin_eql, bo_some, br_bool, decide_eq_true_eq]
  all_goals refine bn_bslice.2 ⟨_, rfl, rfl, ?_⟩
  all_goals first
    | (rw [show operandSortsS op = [1, 1, 1] by simp_all [operandSortsS]]; exact fz_new (l := [1, 1, 1]) rfl)
    | (rw [show operandSortsS op = [2, 1] by simp_all [operandSortsS]]; exact fz_new (l := [2, 1]) rfl)
    | (rw [show operandSortsS op = [2, 1, 1] by simp_all [operandSortsS]]; exact fz_new (l := [2, 1, 1]) rfl)
    | (rw [show operandSortsS op = [2] by simp_all [operandSortsS]]; exact fz_new (l := [2]) rfl)
    | (rw [show operandSortsS op = [3] by simp_all [operandSortsS]]; exact fz_new (l := [3]) rfl)
    | (rw [show operandSortsS op = [1, 1] by simp_all [operandSortsS]]; exact fz_new (l := [1, 1]) rfl)

/-! ### loopSorts -/
def loopSortsS (n : Nat) : List Int := ((List.replicate n 1).set 0 2).set (lv n + 1) 2
theorem map_set_int (l : List Int) (i : Nat) (x : Int) : (l.map fun n => V.int .i64 n).set i (.int .i64 x) = (l.set i x).map fun n => V.int .i64 n := by
  rw [List.map_set]
theorem ir_loopSorts_p1 {k : Nat} (hk : 3 ≤ k) (hb : k < 1073741824) {R : V → S → Prop} (hR : ∀ v s, WF s → Ls s 1 v ((loopSortsS k).map fun n => V.int .i64 n) k → R v s) :
    ∀ n i, k - i = n → i ≤ k → ∀ v s, Ls s 1 v ((List.replicate i (1 : Int)).map fun n => V.int .i64 n) i → ir_loopSorts.p1 R (.int .i64 (k : Int)) v (.int .i64 (i : Int)) s := by
  intro n
  induction n with
  | zero =>
    intro i hn hi v s hL
    obtain rfl : i = k := by omega
    refine ir_loopSorts.p1_s fun hw => ?_
    simp only [bo_some, bin_lss, br_bool, decide_eq_true_eq, Int.ofNat_lt, Nat.lt_irrefl, if_false]
    refine (ir_loopVars_pu i hb).c (.cons (.int _ _) .nil) ?_
    have hl : lv i + 1 < i := by unfold lv; omega
    rw [bin_inc (by omega), bo_some]
    refine put_one (i := 0) hL hw (by omega) rfl rfl rfl fun s1 hw1 hL1 _ => ?_
    refine put_one hL1 hw1 hl rfl rfl rfl fun s2 hw2 hL2 _ => ?_
    rw [map_set_int, map_set_int] at hL2
    exact hR v s2 hw2 hL2
  | succ n ih =>
    intro i hn hi v s hL
    have h1 : i < k := by omega
    refine ir_loopSorts.p1_s fun hw => ?_
    simp only [bo_some, bin_lss, br_bool, decide_eq_true_eq, Int.ofNat_lt]
    rw [if_pos h1]
    refine app_one (new := [.int .i64 1]) hL hw rfl rfl rfl (by decide) (by omega) fun v' s' hw' hL' _ _ => ?_
    rw [bin_inc (by omega), bo_some]
    refine ih (i + 1) (by omega) (by omega) v' s' ?_
    rw [List.replicate_succ', List.map_append]
    exact hL'
theorem ir_loopSorts_pu {k : Nat} (hk : 3 ≤ k) (hb : k < 1073741824) : Pu Pg F.ir_loopSorts [.int .i64 (k : Int)] (eInts (loopSortsS k)) := by
  refine Pu.fz ir_loopSorts_k (ir_loopSorts_c (ir_loopSorts.p0_s fun _ => ?_))
  exact ir_loopSorts_p1 hk hb (fun v s _ hL => hL.ints) k 0 rfl (Nat.zero_le _) _ _ .nil
end Go.Am.Ytmjaimpkjjkliaa
