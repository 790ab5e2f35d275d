/- Words: the program's and the reference's operations answer the same. -/
import Derived.Test.YtmjaimpkjjkliaaGreatVwd
import Derived.Test.YtmjaimpkjjkliaaGreatAmM24
import Derived.Test.YtmjaimpkjjkliaaGreatK3
import Derived.Test.YtmjaimpkjjkliaaGreatK2
import Derived.Test.YtmjaimpkjjkliaaGreatVev
import Derived.Test.YtmjaimpkjjkliaaGreatE1
namespace Go.Am.YtmjaimpkjjkliaaGreat
open Go.Proofs
set_option linter.unusedVariables false

abbrev wr (n : Int) : Int := IntKind.wrap .i64 n
def unaryS (op a : Int) : Int := if op = 20 then wr (0 - a) else if op = 21 then wr (BitVec.ofInt 64 (-1) ^^^ BitVec.ofInt 64 a).toNat else 0
def quotS (a b : Int) : Int := if b = 0 then 0 else if b = -1 then wr (0 - a) else wr (a.tdiv b)
def byS (b : Int) : Int := IntKind.wrap .u64 (wr (BitVec.ofInt 64 b &&& BitVec.ofInt 64 63).toNat)
def binaryS (op a b : Int) : Int :=
  if op = 4 then wr (a + b) else if op = 5 then wr (a - b) else if op = 6 then wr (a * b) else if op = 7 then quotS a b
  else if op = 8 then (if b = 0 then 0 else wr (a - wr (quotS a b * b)))
  else if op = 9 then wr (BitVec.ofInt 64 a &&& BitVec.ofInt 64 b).toNat else if op = 10 then wr (BitVec.ofInt 64 a ||| BitVec.ofInt 64 b).toNat else if op = 11 then wr (BitVec.ofInt 64 a ^^^ BitVec.ofInt 64 b).toNat
  else if op = 12 then wr (a * 2 ^ (min (byS b).toNat 64)) else if op = 13 then wr ((IntKind.wrap .u64 a).fdiv (2 ^ (min (byS b).toNat 64))) else if op = 14 then a.fdiv (2 ^ (min (byS b).toNat 64))
  else if op = 15 then (if a = b then 1 else 0) else if op = 16 then (if a = b then 0 else 1) else if op = 17 then (if a < b then 1 else 0) else if op = 18 then (if a ≤ b then 1 else 0)
  else if op = 19 then (if IntKind.wrap .u64 a < IntKind.wrap .u64 b then 1 else 0) else 0
theorem byS_pos (b : Int) : 0 ≤ byS b := by
  unfold byS IntKind.wrap
  simp only [IntKind.signed, IntKind.bits]
  exact Int.emod_nonneg _ (by decide)
theorem bin_shl {a y : Int} (h : 0 ≤ y) : bin .shl (.int .i64 a) (.int .u64 y) = some (.int .i64 (wr (a * 2 ^ (min y.toNat 64)))) := by
  show shiftBin .shl .i64 a y = _
  unfold shiftBin; rw [if_neg (by omega)]; rfl
theorem bin_shr {k : IntKind} {a y : Int} (hk : k.bits = 64) (h : 0 ≤ y) : bin .shr (.int k a) (.int .u64 y) = some (.int k (a.fdiv (2 ^ (min y.toNat 64)))) := by
  have : bin .shr (.int k a) (.int .u64 y) = shiftBin .shr k a y := rfl
  rw [this]
  unfold shiftBin; rw [if_neg (by omega), hk]

theorem word_Unary_pu (op a : Int) : Pu Pg F.word_Unary [.int .i64 op, .int .i64 a] (.int .i64 (unaryS op a)) := by
  refine Pu.fl word_Unary_k rfl (word_Unary_c (word_Unary.p0_s fun _ => ?_))
  rw [bin_eql, bo_some, br_bool]
  split
  · rename_i h; have h := of_decide_eq_true h; subst h
    show bo (some (V.int .i64 _)) _
    rw [bo_some]; rfl
  rw [bin_eql, bo_some, br_bool]
  split
  · rename_i h; have h := of_decide_eq_true h; subst h
    show bo (some (V.int .i64 _)) _
    rw [bo_some]; rfl
  · rename_i h1 h2
    have h1 : ¬ op = 20 := fun h => h1 (decide_eq_true h)
    have h2 : ¬ op = 21 := fun h => h2 (decide_eq_true h)
    show V.int .i64 0 = _
    unfold unaryS; rw [if_neg h1, if_neg h2]

theorem r1_Unary_pu (op a : Int) : Pu Pg F.r1_Unary [.int .i64 op, .int .i64 a] (.int .i64 (unaryS op a)) := by
  refine Pu.fl r1_Unary_k rfl (r1_Unary_c (r1_Unary.p0_s fun _ => ?_))
  rw [bin_eql, bo_some, br_bool]
  split
  · rename_i h; have h := of_decide_eq_true h; subst h
    show bo (some (V.int .i64 _)) _
    rw [bo_some]; rfl
  rw [bin_eql, bo_some, br_bool]
  split
  · rename_i h; have h := of_decide_eq_true h; subst h
    show bo (some (V.int .i64 _)) _
    rw [bo_some]; rfl
  · rename_i h1 h2
    have h1 : ¬ op = 20 := fun h => h1 (decide_eq_true h)
    have h2 : ¬ op = 21 := fun h => h2 (decide_eq_true h)
    show V.int .i64 0 = _
    unfold unaryS; rw [if_neg h1, if_neg h2]

theorem word_quotient_pu (a b : Int) : Pu Pg F.word_quotient [.int .i64 a, .int .i64 b] (.int .i64 (quotS a b)) := by
  refine Pu.fl word_quotient_k rfl (word_quotient_c (word_quotient.p0_s fun _ => ?_))
  rw [bin_eql, bo_some, br_bool]
  split
  · rename_i h; have h := of_decide_eq_true h; subst h
    rfl
  rename_i h0
  have h0 : ¬ b = 0 := fun h => h0 (decide_eq_true h)
  rw [bin_eql, bo_some, br_bool]
  split
  · rename_i h; have h := of_decide_eq_true h; subst h
    show bo (some (V.int .i64 _)) _
    rw [bo_some]; rfl
  · rename_i h1
    have h1 : ¬ b = -1 := fun h => h1 (decide_eq_true h)
    have e : bin .quo (.int .i64 a) (.int .i64 b) = some (.int .i64 (wr (a.tdiv b))) := by simp [bin, intBin, h0]
    rw [e, bo_some]
    show V.int .i64 _ = _
    unfold quotS; rw [if_neg h0, if_neg h1]

theorem r1_Div_pu (a b : Int) : Pu Pg F.r1_Div [.int .i64 a, .int .i64 b] (.int .i64 (quotS a b)) := by
  refine Pu.fl r1_Div_k rfl (r1_Div_c (r1_Div.p0_s fun _ => ?_))
  rw [bin_eql, bo_some, br_bool]
  split
  · rename_i h; have h := of_decide_eq_true h; subst h
    rfl
  rename_i h0
  have h0 : ¬ b = 0 := fun h => h0 (decide_eq_true h)
  rw [bin_eql, bo_some, br_bool]
  split
  · rename_i h; have h := of_decide_eq_true h; subst h
    show bo (some (V.int .i64 _)) _
    rw [bo_some]; rfl
  · rename_i h1
    have h1 : ¬ b = -1 := fun h => h1 (decide_eq_true h)
    have e : bin .quo (.int .i64 a) (.int .i64 b) = some (.int .i64 (wr (a.tdiv b))) := by simp [bin, intBin, h0]
    rw [e, bo_some]
    show V.int .i64 _ = _
    unfold quotS; rw [if_neg h0, if_neg h1]

theorem word_truth_pu (b : Bool) : Pu Pg F.word_truth [.bool b] (.int .i64 (if b = true then 1 else 0)) := by
  refine Pu.fl word_truth_k rfl (word_truth_c (word_truth.p0_s fun _ => ?_))
  rw [br_bool]
  cases b <;> rfl

theorem r1_boolWord_pu (b : Bool) : Pu Pg F.r1_boolWord [.bool b] (.int .i64 (if b = true then 1 else 0)) := by
  refine Pu.fl r1_boolWord_k rfl (r1_boolWord_c (r1_boolWord.p0_s fun _ => ?_))
  rw [br_bool]
  cases b <;> rfl

theorem word_shiftOrCompare_pu {op : Int} (a b : Int) (h4 : ¬ op = 4) (h5 : ¬ op = 5) (h6 : ¬ op = 6) (h7 : ¬ op = 7) (h8 : ¬ op = 8) (h9 : ¬ op = 9) (h10 : ¬ op = 10) (h11 : ¬ op = 11) : Pu Pg F.word_shiftOrCompare [.int .i64 op, .int .i64 a, .int .i64 b] (.int .i64 (binaryS op a b)) := by
  refine Pu.fl word_shiftOrCompare_k rfl (word_shiftOrCompare_c (word_shiftOrCompare.p0_s fun _ => ?_))
  show bo (some (V.int .i64 _)) _
  rw [bo_some]
  show bo (some (V.int .u64 (byS b))) _
  rw [bo_some]
  rw [bin_eql, bo_some, br_bool]
  split
  · rename_i h; have h := of_decide_eq_true h; subst h
    rw [bin_shl (byS_pos b), bo_some]; rfl
  rename_i h12
  rw [bin_eql, bo_some, br_bool]
  split
  · rename_i h; have h := of_decide_eq_true h; subst h
    show bo (some (V.int .u64 _)) _
    rw [bo_some, bin_shr rfl (byS_pos b), bo_some]
    show bo (some (V.int .i64 _)) _
    rw [bo_some]; rfl
  rename_i h13
  rw [bin_eql, bo_some, br_bool]
  split
  · rename_i h; have h := of_decide_eq_true h; subst h
    rw [bin_shr rfl (byS_pos b), bo_some]; rfl
  rename_i h14
  rw [bin_eql, bo_some, br_bool]
  split
  · rename_i h; have h := of_decide_eq_true h; subst h
    rw [bin_eql, bo_some]
    refine (word_truth_pu _).c (.cons (.bool _) .nil) ?_
    show V.int .i64 (if decide (a = b) = true then 1 else 0) = V.int .i64 (if a = b then 1 else 0)
    simp
  rename_i h15
  rw [bin_eql, bo_some, br_bool]
  split
  · rename_i h; have h := of_decide_eq_true h; subst h
    rw [bin_neq, bo_some]
    refine (word_truth_pu _).c (.cons (.bool _) .nil) ?_
    show V.int .i64 (if (!decide (a = b)) = true then 1 else 0) = V.int .i64 (if a = b then 0 else 1)
    by_cases h : a = b <;> simp [h]
  rename_i h16
  rw [bin_eql, bo_some, br_bool]
  split
  · rename_i h; have h := of_decide_eq_true h; subst h
    rw [bin_lss, bo_some]
    refine (word_truth_pu _).c (.cons (.bool _) .nil) ?_
    show V.int .i64 (if decide (a < b) = true then 1 else 0) = V.int .i64 (if a < b then 1 else 0)
    simp
  rename_i h17
  rw [bin_eql, bo_some, br_bool]
  split
  · rename_i h; have h := of_decide_eq_true h; subst h
    rw [bin_leq, bo_some]
    refine (word_truth_pu _).c (.cons (.bool _) .nil) ?_
    show V.int .i64 (if decide (a ≤ b) = true then 1 else 0) = V.int .i64 (if a ≤ b then 1 else 0)
    simp
  rename_i h18
  rw [bin_eql, bo_some, br_bool]
  split
  · rename_i h; have h := of_decide_eq_true h; subst h
    show bo (some (V.int .u64 _)) _
    rw [bo_some]
    show bo (some (V.int .u64 _)) _
    rw [bo_some, bin_lss, bo_some]
    refine (word_truth_pu _).c (.cons (.bool _) .nil) ?_
    show V.int .i64 (if decide (IntKind.wrap .u64 a < IntKind.wrap .u64 b) = true then 1 else 0) = V.int .i64 (if IntKind.wrap .u64 a < IntKind.wrap .u64 b then 1 else 0)
    simp
  rename_i h19
  have h12 : ¬ op = 12 := fun e => h12 (decide_eq_true e)
  have h13 : ¬ op = 13 := fun e => h13 (decide_eq_true e)
  have h14 : ¬ op = 14 := fun e => h14 (decide_eq_true e)
  have h15 : ¬ op = 15 := fun e => h15 (decide_eq_true e)
  have h16 : ¬ op = 16 := fun e => h16 (decide_eq_true e)
  have h17 : ¬ op = 17 := fun e => h17 (decide_eq_true e)
  have h18 : ¬ op = 18 := fun e => h18 (decide_eq_true e)
  have h19 : ¬ op = 19 := fun e => h19 (decide_eq_true e)
  show V.int .i64 0 = _
  unfold binaryS; rw [if_neg h4, if_neg h5, if_neg h6, if_neg h7, if_neg h8, if_neg h9, if_neg h10, if_neg h11, if_neg h12, if_neg h13, if_neg h14, if_neg h15, if_neg h16, if_neg h17, if_neg h18, if_neg h19]
theorem word_Binary_pu (op a b : Int) : Pu Pg F.word_Binary [.int .i64 op, .int .i64 a, .int .i64 b] (.int .i64 (binaryS op a b)) := by
  refine Pu.fl word_Binary_k rfl (word_Binary_c (word_Binary.p0_s fun _ => ?_))
  rw [bin_eql, bo_some, br_bool]
  split
  · rename_i h; have h := of_decide_eq_true h; subst h
    show bo (some (V.int .i64 _)) _
    rw [bo_some]; rfl
  rename_i h4
  rw [bin_eql, bo_some, br_bool]
  split
  · rename_i h; have h := of_decide_eq_true h; subst h
    show bo (some (V.int .i64 _)) _
    rw [bo_some]; rfl
  rename_i h5
  rw [bin_eql, bo_some, br_bool]
  split
  · rename_i h; have h := of_decide_eq_true h; subst h
    show bo (some (V.int .i64 _)) _
    rw [bo_some]; rfl
  rename_i h6
  rw [bin_eql, bo_some, br_bool]
  split
  · rename_i h; have h := of_decide_eq_true h; subst h
    exact (word_quotient_pu a b).c (.cons (.int _ _) (.cons (.int _ _) .nil)) rfl
  rename_i h7
  rw [bin_eql, bo_some, br_bool]
  split
  · rename_i h; have h := of_decide_eq_true h; subst h
    rw [bin_eql, bo_some, br_bool]
    split
    · rename_i h; have h := of_decide_eq_true h; subst h; rfl
    · rename_i h
      have h : ¬ b = 0 := fun e => h (decide_eq_true e)
      refine (word_quotient_pu a b).c (.cons (.int _ _) (.cons (.int _ _) .nil)) ?_
      show bo (some (V.int .i64 _)) _
      rw [bo_some]
      show bo (some (V.int .i64 _)) _
      rw [bo_some]
      show V.int .i64 _ = V.int .i64 (if b = 0 then 0 else _)
      rw [if_neg h]
  rename_i h8
  rw [bin_eql, bo_some, br_bool]
  split
  · rename_i h; have h := of_decide_eq_true h; subst h
    show bo (some (V.int .i64 _)) _
    rw [bo_some]; rfl
  rename_i h9
  rw [bin_eql, bo_some, br_bool]
  split
  · rename_i h; have h := of_decide_eq_true h; subst h
    show bo (some (V.int .i64 _)) _
    rw [bo_some]; rfl
  rename_i h10
  rw [bin_eql, bo_some, br_bool]
  split
  · rename_i h; have h := of_decide_eq_true h; subst h
    show bo (some (V.int .i64 _)) _
    rw [bo_some]; rfl
  rename_i h11
  have h4 : ¬ op = 4 := fun e => h4 (decide_eq_true e)
  have h5 : ¬ op = 5 := fun e => h5 (decide_eq_true e)
  have h6 : ¬ op = 6 := fun e => h6 (decide_eq_true e)
  have h7 : ¬ op = 7 := fun e => h7 (decide_eq_true e)
  have h8 : ¬ op = 8 := fun e => h8 (decide_eq_true e)
  have h9 : ¬ op = 9 := fun e => h9 (decide_eq_true e)
  have h10 : ¬ op = 10 := fun e => h10 (decide_eq_true e)
  have h11 : ¬ op = 11 := fun e => h11 (decide_eq_true e)
  exact (word_shiftOrCompare_pu a b h4 h5 h6 h7 h8 h9 h10 h11).c (.cons (.int _ _) (.cons (.int _ _) (.cons (.int _ _) .nil))) rfl
theorem r1_Binary_pu (op a b : Int) : Pu Pg F.r1_Binary [.int .i64 op, .int .i64 a, .int .i64 b] (.int .i64 (binaryS op a b)) := by
  refine Pu.fl r1_Binary_k rfl (r1_Binary_c (r1_Binary.p0_s fun _ => ?_))
  show bo (some (V.int .i64 _)) _
  rw [bo_some]
  show bo (some (V.int .u64 (byS b))) _
  rw [bo_some]
  rw [bin_eql, bo_some, br_bool]
  split
  · rename_i h; have h := of_decide_eq_true h; subst h
    show bo (some (V.int .i64 _)) _
    rw [bo_some]; rfl
  rename_i h4
  rw [bin_eql, bo_some, br_bool]
  split
  · rename_i h; have h := of_decide_eq_true h; subst h
    show bo (some (V.int .i64 _)) _
    rw [bo_some]; rfl
  rename_i h5
  rw [bin_eql, bo_some, br_bool]
  split
  · rename_i h; have h := of_decide_eq_true h; subst h
    show bo (some (V.int .i64 _)) _
    rw [bo_some]; rfl
  rename_i h6
  rw [bin_eql, bo_some, br_bool]
  split
  · rename_i h; have h := of_decide_eq_true h; subst h
    exact (r1_Div_pu a b).c (.cons (.int _ _) (.cons (.int _ _) .nil)) rfl
  rename_i h7
  rw [bin_eql, bo_some, br_bool]
  split
  · rename_i h; have h := of_decide_eq_true h; subst h
    rw [bin_eql, bo_some, br_bool]
    split
    · rename_i h; have h := of_decide_eq_true h; subst h; rfl
    · rename_i h
      have h : ¬ b = 0 := fun e => h (decide_eq_true e)
      refine (r1_Div_pu a b).c (.cons (.int _ _) (.cons (.int _ _) .nil)) ?_
      show bo (some (V.int .i64 _)) _
      rw [bo_some]
      show bo (some (V.int .i64 _)) _
      rw [bo_some]
      show V.int .i64 _ = V.int .i64 (if b = 0 then 0 else _)
      rw [if_neg h]
  rename_i h8
  rw [bin_eql, bo_some, br_bool]
  split
  · rename_i h; have h := of_decide_eq_true h; subst h
    show bo (some (V.int .i64 _)) _
    rw [bo_some]; rfl
  rename_i h9
  rw [bin_eql, bo_some, br_bool]
  split
  · rename_i h; have h := of_decide_eq_true h; subst h
    show bo (some (V.int .i64 _)) _
    rw [bo_some]; rfl
  rename_i h10
  rw [bin_eql, bo_some, br_bool]
  split
  · rename_i h; have h := of_decide_eq_true h; subst h
    show bo (some (V.int .i64 _)) _
    rw [bo_some]; rfl
  rename_i h11
  rw [bin_eql, bo_some, br_bool]
  split
  · rename_i h; have h := of_decide_eq_true h; subst h
    rw [bin_shl (byS_pos b), bo_some]; rfl
  rename_i h12
  rw [bin_eql, bo_some, br_bool]
  split
  · rename_i h; have h := of_decide_eq_true h; subst h
    show bo (some (V.int .u64 _)) _
    rw [bo_some, bin_shr rfl (byS_pos b), bo_some]
    show bo (some (V.int .i64 _)) _
    rw [bo_some]; rfl
  rename_i h13
  rw [bin_eql, bo_some, br_bool]
  split
  · rename_i h; have h := of_decide_eq_true h; subst h
    rw [bin_shr rfl (byS_pos b), bo_some]; rfl
  rename_i h14
  rw [bin_eql, bo_some, br_bool]
  split
  · rename_i h; have h := of_decide_eq_true h; subst h
    rw [bin_eql, bo_some]
    refine (r1_boolWord_pu _).c (.cons (.bool _) .nil) ?_
    show V.int .i64 (if decide (a = b) = true then 1 else 0) = V.int .i64 (if a = b then 1 else 0)
    simp
  rename_i h15
  rw [bin_eql, bo_some, br_bool]
  split
  · rename_i h; have h := of_decide_eq_true h; subst h
    rw [bin_neq, bo_some]
    refine (r1_boolWord_pu _).c (.cons (.bool _) .nil) ?_
    show V.int .i64 (if (!decide (a = b)) = true then 1 else 0) = V.int .i64 (if a = b then 0 else 1)
    by_cases h : a = b <;> simp [h]
  rename_i h16
  rw [bin_eql, bo_some, br_bool]
  split
  · rename_i h; have h := of_decide_eq_true h; subst h
    rw [bin_lss, bo_some]
    refine (r1_boolWord_pu _).c (.cons (.bool _) .nil) ?_
    show V.int .i64 (if decide (a < b) = true then 1 else 0) = V.int .i64 (if a < b then 1 else 0)
    simp
  rename_i h17
  rw [bin_eql, bo_some, br_bool]
  split
  · rename_i h; have h := of_decide_eq_true h; subst h
    rw [bin_leq, bo_some]
    refine (r1_boolWord_pu _).c (.cons (.bool _) .nil) ?_
    show V.int .i64 (if decide (a ≤ b) = true then 1 else 0) = V.int .i64 (if a ≤ b then 1 else 0)
    simp
  rename_i h18
  rw [bin_eql, bo_some, br_bool]
  split
  · rename_i h; have h := of_decide_eq_true h; subst h
    show bo (some (V.int .u64 _)) _
    rw [bo_some]
    show bo (some (V.int .u64 _)) _
    rw [bo_some, bin_lss, bo_some]
    refine (r1_boolWord_pu _).c (.cons (.bool _) .nil) ?_
    show V.int .i64 (if decide (IntKind.wrap .u64 a < IntKind.wrap .u64 b) = true then 1 else 0) = V.int .i64 (if IntKind.wrap .u64 a < IntKind.wrap .u64 b then 1 else 0)
    simp
  rename_i h19
  have h4 : ¬ op = 4 := fun e => h4 (decide_eq_true e)
  have h5 : ¬ op = 5 := fun e => h5 (decide_eq_true e)
  have h6 : ¬ op = 6 := fun e => h6 (decide_eq_true e)
  have h7 : ¬ op = 7 := fun e => h7 (decide_eq_true e)
  have h8 : ¬ op = 8 := fun e => h8 (decide_eq_true e)
  have h9 : ¬ op = 9 := fun e => h9 (decide_eq_true e)
  have h10 : ¬ op = 10 := fun e => h10 (decide_eq_true e)
  have h11 : ¬ op = 11 := fun e => h11 (decide_eq_true e)
  have h12 : ¬ op = 12 := fun e => h12 (decide_eq_true e)
  have h13 : ¬ op = 13 := fun e => h13 (decide_eq_true e)
  have h14 : ¬ op = 14 := fun e => h14 (decide_eq_true e)
  have h15 : ¬ op = 15 := fun e => h15 (decide_eq_true e)
  have h16 : ¬ op = 16 := fun e => h16 (decide_eq_true e)
  have h17 : ¬ op = 17 := fun e => h17 (decide_eq_true e)
  have h18 : ¬ op = 18 := fun e => h18 (decide_eq_true e)
  have h19 : ¬ op = 19 := fun e => h19 (decide_eq_true e)
  show V.int .i64 0 = _
  unfold binaryS; rw [if_neg h4, if_neg h5, if_neg h6, if_neg h7, if_neg h8, if_neg h9, if_neg h10, if_neg h11, if_neg h12, if_neg h13, if_neg h14, if_neg h15, if_neg h16, if_neg h17, if_neg h18, if_neg h19]
end Go.Am.YtmjaimpkjjkliaaGreat
namespace Go.Am.YtmjaimpkjjkliaaGreat
open Go.Proofs
set_option linter.unusedVariables false

theorem getD_mem {l : List Int} {i : Nat} (h : i < l.length) : l.getD i 0 ∈ l := by
  rw [List.getD_eq_getElem?_getD, List.getElem?_eq_getElem h]
  exact List.getElem_mem _
theorem sortN_node {l : List Node} {j : Nat} (h : sortN l j ≠ 0) : (0 ≤ (arityS (l.getD j default).op).1 → ((l.getD j default).kids.length : Int) = (arityS (l.getD j default).op).1) ∧ ((l.getD j default).op ≠ 1 → 0 ≤ (l.getD j default).imm) := by
  unfold sortN sortAt at h
  cases hks : kidS j (sortsS l j) (l.getD j default).kids with
  | none => rw [hks] at h; simp at h
  | some s =>
    rw [hks] at h
    have hl := kidS_len hks
    simp only at h
    unfold finS at h
    split at h
    · simp at h
    · rename_i hv
      simp only [not_or, Bool.not_eq_false] at hv
      refine ⟨fun h0 => ?_, fun h1 => ?_⟩
      · have h2 := hv.1
        unfold validOperandsS at h2
        split at h2
        · simp at h2
        · rename_i hn
          simp only [not_or, not_and, Decidable.not_not] at hn
          have := hn.2 h0
          omega
      · have h2 := hv.2
        unfold validImmS at h2
        rw [if_neg h1] at h2
        split at h2
        · simp only [Bool.and_eq_true, decide_eq_true_eq] at h2; omega
        · simp only [Bool.and_eq_true, decide_eq_true_eq] at h2; omega

def gK (out : List Int) (n : Node) (j : Nat) : Int := out.getD (n.kids.getD j 0).toNat 0
def stepV (l : List Node) (ars out : List Int) (k : Nat) : Option (List Int) :=
  if (l.getD k default).op = 1 then some (out.set k (l.getD k default).imm)
  else if (l.getD k default).op = 2 ∧ (l.getD k default).imm < ars.length then some (out.set k (ars.getD (l.getD k default).imm.toNat 0))
  else if (l.getD k default).op = 20 ∨ (l.getD k default).op = 21 then some (out.set k (unaryS (l.getD k default).op (gK out (l.getD k default) 0)))
  else if 4 ≤ (l.getD k default).op ∧ (l.getD k default).op ≤ 19 then some (out.set k (binaryS (l.getD k default).op (gK out (l.getD k default) 0) (gK out (l.getD k default) 1)))
  else if (l.getD k default).op = 22 then some (out.set k (if gK out (l.getD k default) 0 = 0 then gK out (l.getD k default) 2 else gK out (l.getD k default) 1))
  else none
def foldV (l : List Node) (ars : List Int) : List Int → List Int → Option (List Int)
  | [], out => some out
  | d :: ds, out => match stepV l ars out d.toNat with | none => none | some out' => foldV l ars ds out'
def endV (i : Nat) : Option (List Int) → Int × Bool
  | none => (0, false)
  | some out => (out.getD i 0, true)
def valS (l : List Node) (ars : List Int) (i : Int) : Int × Bool := if sortS l i = 1 then endV i.toNat (foldV l ars (depsS l i) (List.replicate (i.toNat + 1) 0)) else (0, false)
abbrev tupV (r : Int × Bool) : V := .tup [.int .i64 r.1, .bool r.2]
abbrev Vo (s : S) (v : V) (out : List Int) : Prop := Ls s 1 v (out.map fun n => V.int .i64 n) out.length

theorem get_at {s : S} {v : V} {out : List Int} {x : Int} {K : V → Prop} (h : Vo s v out) (h0 : 0 ≤ x) (hx : x < out.length) (hK : K (.int .i64 (out.getD x.toNat 0))) : bo (vIaddr 1 v (.int .i64 x)) fun y => bo (loadAt s.h none y) K := by
  obtain ⟨q, rfl⟩ := Int.eq_ofNat_of_zero_le h0
  have hq : q < out.length := by omega
  exact get_one h hq (c := .int .i64 (out.getD q 0)) (by simp [List.getD, hq]) hK
theorem put_at' {s : S} {v : V} {out : List Int} {k : Nat} {x : Int} {K : V → S → Prop} (h : Vo s v out) (hw : WF s) (hk : k < out.length) (hK : ∀ s', WF s' → Vo s' v (out.set k x) → Keep s s' (idOf v) → K .undef s') :
    bo (vIaddr 1 v (.int .i64 (k : Int))) fun y => bs (vStore s 1 y (.int .i64 x)) K :=
  put_one h hw hk rfl rfl rfl fun s' hw' hL' kp => hK s' hw' (by rw [Vo, List.map_set, List.length_set]; exact hL') kp

/-- What a step of either text stands on. -/
structure St (s : S) (v : V) (l : List Node) (ars out : List Int) (nid k : Nat) : Prop where
  wf : WF s
  vo : Vo s v out
  nd : s.h.get nid = some (.row (eN (l.getD k default)) 0 0)
  ok : sortN l k ≠ 0
  lt : k < out.length
  kids : ∀ x ∈ (l.getD k default).kids, 0 ≤ x ∧ x < (k : Int)
  nid : ¬ idOf v nid

section
variable {s : S} {v : V} {l : List Node} {ars out : List Int} {nid k : Nat}
theorem St.kid (h : St s v l ars out nid k) {j : Nat} {m : Int} (ha : (arityS (l.getD k default).op).1 = m) (hj : (j : Int) < m) {K : V → Prop} (hK : K (.int .i64 (gK out (l.getD k default) j))) :
    bo (vFaddr 2 (.ptr nid 0 0 3)) fun y3 => bo (loadAt s.h none y3) fun y4 => bo (vIaddr 1 y4 (.int .i64 (j : Int))) fun y5 => bo (loadAt s.h none y5) fun y6 => bo (vIaddr 1 v y6) fun y7 => bo (loadAt s.h none y7) K := by
  refine fld h.nd (Nat.le_refl _) (Nat.le_refl _) rfl ?_
  have hl := (sortN_node h.ok).1 (by omega)
  have hlen : j < (l.getD k default).kids.length := by omega
  refine get_int hlen ?_
  have hmem : (l.getD k default).kids.getD j 0 ∈ (l.getD k default).kids := getD_mem hlen
  have := h.kids _ hmem
  have hlt := h.lt
  exact get_at h.vo (by omega) (by omega) hK
theorem St.op (h : St s v l ars out nid k) {K : V → Prop} (hK : K (.int .i64 (l.getD k default).op)) : bo (vFaddr 0 (.ptr nid 0 0 3)) fun y => bo (loadAt s.h none y) K :=
  fld h.nd (Nat.le_refl _) (Nat.le_of_ble_eq_true rfl) rfl hK
theorem St.imm (h : St s v l ars out nid k) {K : V → Prop} (hK : K (.int .i64 (l.getD k default).imm)) : bo (vFaddr 1 (.ptr nid 0 0 3)) fun y => bo (loadAt s.h none y) K :=
  fld h.nd (Nat.le_refl _) (Nat.le_of_ble_eq_true rfl) rfl hK
end

/-! ### The program -/
section
variable {l : List Node} {ars d out : List Int} {i j k nid : Nat} {v : V} {s : S} {R : V → S → Prop}
abbrev EvK (R : V → S → Prop) (l : List Node) (ars d out : List Int) (i j k : Nat) (v : V) : Prop := ∀ out' s', WF s' → Vo s' v out' → stepV l ars out k = some out' → eval_Value.p2 R (eNodes l) (.int .i64 (i : Int)) (eInts ars) v (eInts d) (.int .i64 (d.length : Int)) (.int .i64 (j : Int)) s'

theorem ev_p6 (h : St s v l ars out nid k) (K : EvK R l ars d out i j k v) (KN : stepV l ars out k = none → R (tupV (0, false)) s)
    (h1 : ¬ (l.getD k default).op = 1) (h2 : ¬ ((l.getD k default).op = 2 ∧ (l.getD k default).imm < ars.length)) (h3 : ¬ ((l.getD k default).op = 20 ∨ (l.getD k default).op = 21)) (h4 : ¬ (4 ≤ (l.getD k default).op ∧ (l.getD k default).op ≤ 19)) (c : Bool)
    (hc : c = (decide ((l.getD k default).op = 22) && !decide (gK out (l.getD k default) 0 = 0))) :
    eval_Value.p6 R (eNodes l) (.int .i64 (i : Int)) (eInts ars) v (.int .i64 (k : Int)) (.ptr nid 0 0 3) (eInts d) (.int .i64 (d.length : Int)) (.int .i64 (j : Int)) (.bool c) s := by
  refine eval_Value.p6_s fun hw => ?_
  rw [br_bool]
  split
  · rename_i hct
    rw [hct] at hc
    have hc := hc.symm
    simp only [Bool.and_eq_true, decide_eq_true_eq, Bool.not_eq_true', decide_eq_false_iff_not] at hc
    have ha : (arityS (l.getD k default).op).1 = 3 := by rw [hc.1]; decide
    refine h.kid (j := 1) ha (by decide) ?_
    refine put_at' h.vo hw h.lt fun s' hw' ho' _ => ?_
    refine K _ s' hw' ho' ?_
    unfold stepV
    rw [if_neg h1, if_neg h2, if_neg h3, if_neg h4, if_pos hc.1, if_neg hc.2]
  · rename_i hcf
    refine h.op ?_
    rw [bin_eql, bo_some, br_bool]
    split
    · rename_i h22
      have h22 := of_decide_eq_true h22
      have ha : (arityS (l.getD k default).op).1 = 3 := by rw [h22]; decide
      refine h.kid (j := 2) ha (by decide) ?_
      refine put_at' h.vo hw h.lt fun s' hw' ho' _ => ?_
      refine K _ s' hw' ho' ?_
      have h0 : gK out (l.getD k default) 0 = 0 := by
        by_cases e : gK out (l.getD k default) 0 = 0
        · exact e
        · refine absurd ?_ hcf
          rw [hc, decide_eq_true h22, decide_eq_false e]; rfl
      unfold stepV
      rw [if_neg h1, if_neg h2, if_neg h3, if_neg h4, if_pos h22, if_pos h0]
    · rename_i h22
      have h22 : ¬ (l.getD k default).op = 22 := fun e => h22 (decide_eq_true e)
      refine KN ?_
      unfold stepV
      rw [if_neg h1, if_neg h2, if_neg h3, if_neg h4, if_neg h22]

theorem ev_p5 (h : St s v l ars out nid k) (K : EvK R l ars d out i j k v) (KN : stepV l ars out k = none → R (tupV (0, false)) s)
    (h1 : ¬ (l.getD k default).op = 1) (h2 : ¬ ((l.getD k default).op = 2 ∧ (l.getD k default).imm < ars.length)) (h3 : ¬ ((l.getD k default).op = 20 ∨ (l.getD k default).op = 21)) (c : Bool)
    (hc : c = decide (4 ≤ (l.getD k default).op ∧ (l.getD k default).op ≤ 19)) :
    eval_Value.p5 R (eNodes l) (.int .i64 (i : Int)) (eInts ars) v (.int .i64 (k : Int)) (.ptr nid 0 0 3) (eInts d) (.int .i64 (d.length : Int)) (.int .i64 (j : Int)) (.bool c) s := by
  refine eval_Value.p5_s fun hw => ?_
  rw [br_bool]
  split
  · rename_i hct
    have h4 := of_decide_eq_true (hc.symm.trans hct)
    have ha : (arityS (l.getD k default).op).1 = 2 := by
      unfold arityS
      rw [if_neg (by omega), if_neg (by omega), if_neg (by omega), if_neg (by omega), if_neg (by omega), if_pos h4]
    refine h.op ?_
    refine h.kid (j := 0) ha (by decide) ?_
    refine h.kid (j := 1) ha (by decide) ?_
    refine (word_Binary_pu _ _ _).c (.cons (.int _ _) (.cons (.int _ _) (.cons (.int _ _) .nil))) ?_
    refine put_at' h.vo hw h.lt fun s' hw' ho' _ => ?_
    refine K _ s' hw' ho' ?_
    unfold stepV
    rw [if_neg h1, if_neg h2, if_neg h3, if_pos h4]
  · rename_i hcf
    have h4 : ¬ (4 ≤ (l.getD k default).op ∧ (l.getD k default).op ≤ 19) := fun e => hcf (hc.trans (decide_eq_true e))
    refine h.op ?_
    rw [bin_eql, bo_some, br_bool]
    split
    · rename_i h22
      have h22' := of_decide_eq_true h22
      have ha : (arityS (l.getD k default).op).1 = 3 := by rw [h22']; decide
      refine h.kid (j := 0) ha (by decide) ?_
      rw [bin_neq, bo_some]
      exact ev_p6 h K KN h1 h2 h3 h4 _ (by rw [h22]; rfl)
    · rename_i h22
      have h22 : ¬ (l.getD k default).op = 22 := fun e => h22 (decide_eq_true e)
      exact ev_p6 h K KN h1 h2 h3 h4 false (by rw [decide_eq_false h22]; rfl)

theorem ev_p4 (h : St s v l ars out nid k) (K : EvK R l ars d out i j k v) (KN : stepV l ars out k = none → R (tupV (0, false)) s)
    (h1 : ¬ (l.getD k default).op = 1) (h2 : ¬ ((l.getD k default).op = 2 ∧ (l.getD k default).imm < ars.length)) (c : Bool) (hc : c = decide ((l.getD k default).op = 20 ∨ (l.getD k default).op = 21)) :
    eval_Value.p4 R (eNodes l) (.int .i64 (i : Int)) (eInts ars) v (.int .i64 (k : Int)) (.ptr nid 0 0 3) (eInts d) (.int .i64 (d.length : Int)) (.int .i64 (j : Int)) (.bool c) s := by
  refine eval_Value.p4_s fun hw => ?_
  rw [br_bool]
  split
  · rename_i hct
    have h3 := of_decide_eq_true (hc.symm.trans hct)
    have ha : (arityS (l.getD k default).op).1 = 1 := by rcases h3 with h3 | h3 <;> rw [h3] <;> decide
    refine h.op ?_
    refine h.kid (j := 0) ha (by decide) ?_
    refine (word_Unary_pu _ _).c (.cons (.int _ _) (.cons (.int _ _) .nil)) ?_
    refine put_at' h.vo hw h.lt fun s' hw' ho' _ => ?_
    refine K _ s' hw' ho' ?_
    unfold stepV
    rw [if_neg h1, if_neg h2, if_pos h3]
  · rename_i hcf
    have h3 : ¬ ((l.getD k default).op = 20 ∨ (l.getD k default).op = 21) := fun e => hcf (hc.trans (decide_eq_true e))
    refine h.op ?_
    rw [bin_geq, bo_some, br_bool]
    split
    · rename_i h4
      have h4 := of_decide_eq_true h4
      refine h.op ?_
      rw [bin_leq, bo_some]
      exact ev_p5 h K KN h1 h2 h3 _ (decide_eq_decide.2 ⟨fun e => ⟨h4, e⟩, fun e => e.2⟩)
    · rename_i h4
      have h4 : ¬ 4 ≤ (l.getD k default).op := fun e => h4 (decide_eq_true e)
      exact ev_p5 h K KN h1 h2 h3 false (decide_eq_false fun e => h4 e.1).symm

theorem ev_p3 (h : St s v l ars out nid k) (K : EvK R l ars d out i j k v) (KN : stepV l ars out k = none → R (tupV (0, false)) s) (h1 : ¬ (l.getD k default).op = 1) (c : Bool) (hc : c = decide ((l.getD k default).op = 2 ∧ (l.getD k default).imm < ars.length)) :
    eval_Value.p3 R (eNodes l) (.int .i64 (i : Int)) (eInts ars) v (.int .i64 (k : Int)) (.ptr nid 0 0 3) (eInts d) (.int .i64 (d.length : Int)) (.int .i64 (j : Int)) (.bool c) s := by
  refine eval_Value.p3_s fun hw => ?_
  rw [br_bool]
  split
  · rename_i hct
    have h2 := of_decide_eq_true (hc.symm.trans hct)
    have him := (sortN_node h.ok).2 h1
    refine h.imm ?_
    refine get_inti him h2.2 ?_
    refine put_at' h.vo hw h.lt fun s' hw' ho' _ => ?_
    refine K _ s' hw' ho' ?_
    unfold stepV
    rw [if_neg h1, if_pos h2]
  · rename_i hcf
    have h2 : ¬ ((l.getD k default).op = 2 ∧ (l.getD k default).imm < ars.length) := fun e => hcf (hc.trans (decide_eq_true e))
    refine h.op ?_
    rw [bin_eql, bo_some, br_bool]
    split
    · rename_i h3
      have h3 := of_decide_eq_true h3
      exact ev_p4 h K KN h1 h2 true (decide_eq_true (.inl h3)).symm
    · rename_i h3
      have h3 : ¬ (l.getD k default).op = 20 := fun e => h3 (decide_eq_true e)
      refine h.op ?_
      rw [bin_eql, bo_some]
      exact ev_p4 h K KN h1 h2 _ (decide_eq_decide.2 ⟨fun e => .inr e, fun e => e.resolve_left h3⟩)
end

theorem vo_lt {s : S} {v : V} {out : List Int} (h : Vo s v out) (hw : WF s) {i : Nat} (hi : idOf v i) : i < s.n := by
  rcases h.2 with ⟨rfl, _⟩ | ⟨id, ep, wr, rfl, hg, _⟩
  · cases hi
  · cases hi; exact hw.lt hg
theorem stepV_len {l : List Node} {ars out out' : List Int} {k : Nat} (h : stepV l ars out k = some out') : out'.length = out.length := by
  unfold stepV at h
  repeat' split at h
  all_goals (cases h <;> simp)

theorem ev_p1 {l : List Node} {ars d : List Int} {i : Nat} {v : V} {r : Int × Bool} (hb : l.length < 1000) (hi : i < l.length) (hd : ∀ x ∈ d, 0 ≤ x ∧ x ≤ i ∧ sortN l x.toNat ≠ 0) (hdl : d.length ≤ 1000) :
    ∀ m j, d.length - j = m → j ≤ d.length → ∀ (out : List Int) (s : S), out.length = i + 1 → Vo s v out → endV i (foldV l ars (d.drop j) out) = r →
      eval_Value.p1 (fun v1 _ => v1 = tupV r) (eNodes l) (.int .i64 (i : Int)) (eInts ars) v (eInts d) (.int .i64 (d.length : Int)) (.int .i64 (j : Int)) s := by
  intro m
  induction m with
  | zero =>
    intro j hm hj out s ho hV hr
    obtain rfl : j = d.length := by omega
    refine eval_Value.p1_s fun hw => ?_
    simp only [bin_lss, bo_some, br_bool, decide_eq_true_eq, Int.ofNat_lt, Nat.lt_irrefl, if_false]
    refine get_at hV (by omega) (by omega) ?_
    rw [List.drop_length] at hr
    rw [← hr]; rfl
  | succ m ih =>
    intro j hm hj out s ho hV hr
    have k1 : j < d.length := by omega
    rw [drop_getD d j k1] at hr
    have hmem : d.getD j 0 ∈ d := getD_mem k1
    obtain ⟨g0, g1, g2⟩ := hd _ hmem
    refine eval_Value.p1_s fun hw => ?_
    simp only [bin_lss, bo_some, br_bool, decide_eq_true_eq, Int.ofNat_lt]
    rw [if_pos k1]
    refine get_int k1 ?_
    rw [show d.getD j default = d.getD j 0 from rfl] at hr
    obtain ⟨k, hk⟩ := Int.eq_ofNat_of_zero_le g0
    rw [hk] at hr g1 g2 ⊢
    have hkl : k < l.length := by omega
    simp only [Int.toNat_natCast] at g2
    rw [vIaddr_nodes hkl, bo_some, load_lptrk (by simp), bo_some]
    show bn s (nBox (.agg [.int .i64 0, .int .i64 0, .nils])) _
    refine boxk (cs := [.int .i64 0, .int .i64 0, .nils]) hw rfl rfl fun s1 w1 n1 b1 k1' => ?_
    have hst : ∀ K, bs (vStore s1 3 (.ptr s.n 0 0 3) (.agg (eN (l.getD k default)))) K ↔ K .undef (s1.put s.n (.row (eN (l.getD k default)) 0 0)) := fun K => by
      rw [store_ptr (k := 3) (x := .agg (eN (l.getD k default))) b1 rfl rfl (ok_eN (n := l.getD k default)) (Nat.le_refl _), bs_some]; rfl
    rw [show ([.int .i64 0, .int .i64 0, .nils] : List V).length = 3 from rfl]
    refine (hst _).2 ?_
    have k2 : Keep s1 (s1.put s.n (.row (eN (l.getD k default)) 0 0)) (fun x => x = s.n) := .put w1 b1 rfl
    have hlt : ∀ {x}, idOf v x → x < s.n := fun hx => vo_lt hV hw hx
    have hSt : St (s1.put s.n (.row (eN (l.getD k default)) 0 0)) v l ars out s.n k :=
      ⟨k2.wf, (hV.keep k1' fun _ _ h => h).keep k2 fun x hx => by have := hlt hx; omega, S.get_put_self, g2, by omega, fun x hx => by have := sortN_kids g2 x hx; omega, fun hx => by have := hlt hx; omega⟩
    generalize s1.put s.n (.row (eN (l.getD k default)) 0 0) = s2 at hSt
    have K : EvK (fun v1 _ => v1 = tupV r) l ars d out i j k v := fun out' s' hw' hV' hs => by
      refine eval_Value.p2_s fun _ => ?_
      rw [bin_inc (by omega), bo_some]
      refine ih (j + 1) (by omega) (by omega) out' s' (by rw [stepV_len hs]; exact ho) hV' ?_
      rw [← hr]
      simp only [foldV, Int.toNat_natCast]
      rw [hs]
    have KN : stepV l ars out k = none → (fun v1 (_ : S) => v1 = tupV r) (tupV (0, false)) s2 := fun hs => by
      show tupV (0, false) = tupV r
      rw [← hr]
      simp only [foldV, Int.toNat_natCast]
      rw [hs]; rfl
    refine hSt.op ?_
    rw [bin_eql, bo_some, br_bool]
    split
    · rename_i h1
      have h1 := of_decide_eq_true h1
      refine hSt.imm ?_
      refine put_at' hSt.vo hSt.wf hSt.lt fun s' hw' ho' _ => ?_
      refine K _ s' hw' ho' ?_
      unfold stepV; rw [if_pos h1]
    · rename_i h1
      have h1 : ¬ (l.getD k default).op = 1 := fun e => h1 (decide_eq_true e)
      refine hSt.op ?_
      rw [bin_eql, bo_some, br_bool]
      split
      · rename_i h2
        have h2 := of_decide_eq_true h2
        refine hSt.imm ?_
        rw [vLen_eS, bo_some, bin_lss, bo_some]
        exact ev_p3 hSt K KN h1 _ (decide_eq_decide.2 ⟨fun e => ⟨h2, e⟩, fun e => e.2⟩)
      · rename_i h2
        have h2 : ¬ (l.getD k default).op = 2 := fun e => h2 (decide_eq_true e)
        exact ev_p3 hSt K KN h1 false (decide_eq_false fun e => h2 e.1).symm

theorem deps_in {l : List Node} {i : Nat} (hi : i < l.length) : ∀ x ∈ depsS l (i : Int), 0 ≤ x ∧ x ≤ i ∧ sortN l x.toNat ≠ 0 := by
  intro x hx
  have h := dp hi
  obtain ⟨h0, h1, h2⟩ := h.ok x hx
  refine ⟨h0, h.le x hx, ?_⟩
  obtain ⟨q, rfl⟩ := Int.eq_ofNat_of_zero_le h0
  rw [sortS_nat (by omega)] at h2
  exact h2

theorem eval_Value_pu {l : List Node} {ars : List Int} {i : Int} (hi : rng i) (hb : l.length < 1000) (hok : ∀ n ∈ l, n.Ok) : Pu Pg F.eval_Value [eNodes l, .int .i64 i, eInts ars] (tupV (valS l ars i)) := by
  refine Pu.fl eval_Value_k rfl (eval_Value_c (eval_Value.p0_s fun hw => ?_))
  refine (ir_Sort_pu hi (by omega) (hlen_of hok)).c (.cons (cv_nodes _) (.cons (Cv.int _ _) .nil)) ?_
  rw [bin_neq, bo_some, br_bool]
  split
  · rename_i h
    have h : ¬ sortS l i = 1 := by simpa using h
    show tupV (0, false) = _
    unfold valS; rw [if_neg h]
  · rename_i h
    have h : sortS l i = 1 := by simpa using h
    have hr : 0 ≤ i ∧ i < l.length := by
      unfold sortS at h
      split at h
      · simp at h
      · omega
    obtain ⟨q, rfl⟩ := Int.eq_ofNat_of_zero_le hr.1
    have hq : q < l.length := by omega
    show bo (bin .add (.int .i64 (q : Int)) (.int .i64 1)) _
    rw [bin_inc (by omega), bo_some]
    refine mk_one hw (Nat.le_refl _) (by decide) (by omega) fun v s1 hw1 hL _ _ => ?_
    refine (ir_Dependencies_pu hi (by omega) (hlen_of hok)).c (.cons (cv_nodes _) (.cons (Cv.int _ _) .nil)) ?_
    show bo (vLen (eInts (depsS l (q : Int)))) _
    rw [vLen_eS, bo_some]
    have hD := dp hq
    have hdl := hD.len
    refine ev_p1 hb hq (deps_in hq) (by omega) _ 0 rfl (Nat.zero_le _) (List.replicate (q + 1) 0) s1 (by simp) (by rw [Vo, List.map_replicate, List.length_replicate]; exact hL) ?_
    unfold valS
    rw [if_pos h]; rfl

/-! ### The reference -/
section
variable {l : List Node} {ars d out : List Int} {i j k nid : Nat} {v : V} {s : S} {R : V → S → Prop}
abbrev RvK (R : V → S → Prop) (l : List Node) (ars d out : List Int) (i j k : Nat) (v : V) : Prop := ∀ out' s', WF s' → Vo s' v out' → stepV l ars out k = some out' → r7_Value.p2 R (eNodes l) (.int .i64 (i : Int)) (eInts ars) (eInts d) v (.int .i64 (j : Int)) s'
theorem dj_rd {s s' : S} (hj : j < d.length) : rd (rowOf (.lptr (.int .i64 (d.getD j 0) :: (d.drop (j + 1)).flatMap e1))) (fun h => loadAt h none (.lptr (.int .i64 (d.getD j 0) :: (d.drop (j + 1)).flatMap e1))) (.int .i64 (d.getD j 0)) [(s, s')] :=
  rd_of fun p hp => by simp only [List.mem_cons, List.not_mem_nil, or_false] at hp; rw [hp]; exact ⟨load_lptr', load_lptr'⟩

theorem rv_p5 (h : St s v l ars out nid k) (K : RvK R l ars d out i j k v) (KN : stepV l ars out k = none → R (tupV (0, false)) s) (hj : j < d.length) (hdk : d.getD j 0 = (k : Int))
    (h1 : ¬ (l.getD k default).op = 1) (h2 : ¬ ((l.getD k default).op = 2 ∧ (l.getD k default).imm < ars.length)) (h4 : ¬ (4 ≤ (l.getD k default).op ∧ (l.getD k default).op ≤ 19)) (c : Bool)
    (hc : c = decide ((l.getD k default).op = 20 ∨ (l.getD k default).op = 21)) :
    r7_Value.p5 R (eNodes l) (.int .i64 (i : Int)) (eInts ars) (eInts d) v (.int .i64 (j : Int)) (.ptr nid 0 0 3) (.bool c) s := by
  refine r7_Value.p5_s fun hw => ?_
  rw [br_bool]
  split
  · rename_i hct
    have h3 := of_decide_eq_true (hc.symm.trans hct)
    have ha : (arityS (l.getD k default).op).1 = 1 := by rcases h3 with h3 | h3 <;> rw [h3] <;> decide
    refine h.op ?_
    refine h.kid (j := 0) ha (by decide) ?_
    refine (r1_Unary_pu _ _).c (.cons (.int _ _) (.cons (.int _ _) .nil)) ?_
    rw [vIaddr_ints hj, bo_some, load_lptr', bo_some]
    refine ⟨dj_rd hj, ?_⟩
    rw [hdk]
    refine put_at' h.vo hw h.lt fun s' hw' ho' _ => ?_
    refine K _ s' hw' ho' ?_
    unfold stepV
    rw [if_neg h1, if_neg h2, if_pos h3]
  · rename_i hcf
    have h3 : ¬ ((l.getD k default).op = 20 ∨ (l.getD k default).op = 21) := fun e => hcf (hc.trans (decide_eq_true e))
    refine h.op ?_
    rw [bin_eql, bo_some, br_bool]
    split
    · rename_i h22
      have h22 := of_decide_eq_true h22
      have ha : (arityS (l.getD k default).op).1 = 3 := by rw [h22]; decide
      refine h.kid (j := 0) ha (by decide) ?_
      rw [bin_neq, bo_some, br_bool]
      split
      · rename_i h0
        have h0 : ¬ gK out (l.getD k default) 0 = 0 := by simpa using h0
        refine get_int hj ?_
        refine h.kid (j := 1) ha (by decide) ?_
        rw [hdk]
        refine put_at' h.vo hw h.lt fun s' hw' ho' _ => ?_
        refine K _ s' hw' ho' ?_
        unfold stepV
        rw [if_neg h1, if_neg h2, if_neg h3, if_neg h4, if_pos h22, if_neg h0]
      · rename_i h0
        have h0 : gK out (l.getD k default) 0 = 0 := by simpa using h0
        refine get_int hj ?_
        refine h.kid (j := 2) ha (by decide) ?_
        rw [hdk]
        refine put_at' h.vo hw h.lt fun s' hw' ho' _ => ?_
        refine K _ s' hw' ho' ?_
        unfold stepV
        rw [if_neg h1, if_neg h2, if_neg h3, if_neg h4, if_pos h22, if_pos h0]
    · rename_i h22
      have h22 : ¬ (l.getD k default).op = 22 := fun e => h22 (decide_eq_true e)
      refine KN ?_
      unfold stepV
      rw [if_neg h1, if_neg h2, if_neg h3, if_neg h4, if_neg h22]

theorem rv_p4 (h : St s v l ars out nid k) (K : RvK R l ars d out i j k v) (KN : stepV l ars out k = none → R (tupV (0, false)) s) (hj : j < d.length) (hdk : d.getD j 0 = (k : Int))
    (h1 : ¬ (l.getD k default).op = 1) (h2 : ¬ ((l.getD k default).op = 2 ∧ (l.getD k default).imm < ars.length)) (c : Bool) (hc : c = decide (4 ≤ (l.getD k default).op ∧ (l.getD k default).op ≤ 19)) :
    r7_Value.p4 R (eNodes l) (.int .i64 (i : Int)) (eInts ars) (eInts d) v (.int .i64 (j : Int)) (.ptr nid 0 0 3) (.bool c) s := by
  refine r7_Value.p4_s fun hw => ?_
  rw [br_bool]
  split
  · rename_i hct
    have h4 := of_decide_eq_true (hc.symm.trans hct)
    have h3 : ¬ ((l.getD k default).op = 20 ∨ (l.getD k default).op = 21) := by omega
    have ha : (arityS (l.getD k default).op).1 = 2 := by
      unfold arityS
      rw [if_neg (by omega), if_neg (by omega), if_neg (by omega), if_neg (by omega), if_neg (by omega), if_pos h4]
    refine h.op ?_
    refine h.kid (j := 0) ha (by decide) ?_
    refine h.kid (j := 1) ha (by decide) ?_
    refine (r1_Binary_pu _ _ _).c (.cons (.int _ _) (.cons (.int _ _) (.cons (.int _ _) .nil))) ?_
    rw [vIaddr_ints hj, bo_some, load_lptr', bo_some]
    refine ⟨dj_rd hj, ?_⟩
    rw [hdk]
    refine put_at' h.vo hw h.lt fun s' hw' ho' _ => ?_
    refine K _ s' hw' ho' ?_
    unfold stepV
    rw [if_neg h1, if_neg h2, if_neg h3, if_pos h4]
  · rename_i hcf
    have h4 : ¬ (4 ≤ (l.getD k default).op ∧ (l.getD k default).op ≤ 19) := fun e => hcf (hc.trans (decide_eq_true e))
    refine h.op ?_
    rw [bin_eql, bo_some, br_bool]
    split
    · rename_i h3
      have h3 := of_decide_eq_true h3
      exact rv_p5 h K KN hj hdk h1 h2 h4 true (decide_eq_true (.inl h3)).symm
    · rename_i h3
      have h3 : ¬ (l.getD k default).op = 20 := fun e => h3 (decide_eq_true e)
      refine h.op ?_
      rw [bin_eql, bo_some]
      exact rv_p5 h K KN hj hdk h1 h2 h4 _ (decide_eq_decide.2 ⟨fun e => .inr e, fun e => e.resolve_left h3⟩)

theorem rv_p3 (h : St s v l ars out nid k) (K : RvK R l ars d out i j k v) (KN : stepV l ars out k = none → R (tupV (0, false)) s) (hj : j < d.length) (hdk : d.getD j 0 = (k : Int))
    (h1 : ¬ (l.getD k default).op = 1) (c : Bool) (hc : c = decide ((l.getD k default).op = 2 ∧ (l.getD k default).imm < ars.length)) :
    r7_Value.p3 R (eNodes l) (.int .i64 (i : Int)) (eInts ars) (eInts d) v (.int .i64 (j : Int)) (.ptr nid 0 0 3) (.bool c) s := by
  refine r7_Value.p3_s fun hw => ?_
  rw [br_bool]
  split
  · rename_i hct
    have h2 := of_decide_eq_true (hc.symm.trans hct)
    have him := (sortN_node h.ok).2 h1
    refine get_int hj ?_
    refine h.imm ?_
    refine get_inti him h2.2 ?_
    rw [hdk]
    refine put_at' h.vo hw h.lt fun s' hw' ho' _ => ?_
    refine K _ s' hw' ho' ?_
    unfold stepV
    rw [if_neg h1, if_pos h2]
  · rename_i hcf
    have h2 : ¬ ((l.getD k default).op = 2 ∧ (l.getD k default).imm < ars.length) := fun e => hcf (hc.trans (decide_eq_true e))
    refine h.op ?_
    rw [bin_geq, bo_some, br_bool]
    split
    · rename_i h4
      have h4 := of_decide_eq_true h4
      refine h.op ?_
      rw [bin_leq, bo_some]
      exact rv_p4 h K KN hj hdk h1 h2 _ (decide_eq_decide.2 ⟨fun e => ⟨h4, e⟩, fun e => e.2⟩)
    · rename_i h4
      have h4 : ¬ 4 ≤ (l.getD k default).op := fun e => h4 (decide_eq_true e)
      exact rv_p4 h K KN hj hdk h1 h2 false (decide_eq_false fun e => h4 e.1).symm
end

theorem rv_p1 {l : List Node} {ars d : List Int} {i : Nat} {v : V} {r : Int × Bool} (hb : l.length < 1000) (hi : i < l.length) (hd : ∀ x ∈ d, 0 ≤ x ∧ x ≤ i ∧ sortN l x.toNat ≠ 0) (hdl : d.length ≤ 1000) :
    ∀ m j, d.length - j = m → j ≤ d.length → ∀ (out : List Int) (s : S), out.length = i + 1 → Vo s v out → endV i (foldV l ars (d.drop j) out) = r →
      r7_Value.p1 (fun v1 _ => v1 = tupV r) (eNodes l) (.int .i64 (i : Int)) (eInts ars) (eInts d) v (.int .i64 (j : Int)) s := by
  intro m
  induction m with
  | zero =>
    intro j hm hj out s ho hV hr
    obtain rfl : j = d.length := by omega
    refine r7_Value.p1_s fun hw => ?_
    simp only [vLen_eS, bin_lss, bo_some, br_bool, decide_eq_true_eq, Int.ofNat_lt, Nat.lt_irrefl, if_false]
    refine get_at hV (by omega) (by omega) ?_
    rw [List.drop_length] at hr
    rw [← hr]; rfl
  | succ m ih =>
    intro j hm hj out s ho hV hr
    have k1 : j < d.length := by omega
    rw [drop_getD d j k1] at hr
    have hmem : d.getD j 0 ∈ d := getD_mem k1
    obtain ⟨g0, g1, g2⟩ := hd _ hmem
    refine r7_Value.p1_s fun hw => ?_
    simp only [vLen_eS, bin_lss, bo_some, br_bool, decide_eq_true_eq, Int.ofNat_lt]
    rw [if_pos k1]
    refine get_int k1 ?_
    rw [show d.getD j default = d.getD j 0 from rfl] at hr
    obtain ⟨k, hk⟩ := Int.eq_ofNat_of_zero_le g0
    rw [hk] at hr g1 g2
    have hkl : k < l.length := by omega
    simp only [Int.toNat_natCast] at g2
    rw [show bo (vIaddr 3 (eNodes l) (.int .i64 (d.getD j 0))) = bo (vIaddr 3 (eNodes l) (.int .i64 (k : Int))) by rw [hk], vIaddr_nodes hkl, bo_some, load_lptrk (by simp), bo_some]
    show bn s (nBox (.agg [.int .i64 0, .int .i64 0, .nils])) _
    refine boxk (cs := [.int .i64 0, .int .i64 0, .nils]) hw rfl rfl fun s1 w1 n1 b1 k1' => ?_
    have hst : ∀ K, bs (vStore s1 3 (.ptr s.n 0 0 3) (.agg (eN (l.getD k default)))) K ↔ K .undef (s1.put s.n (.row (eN (l.getD k default)) 0 0)) := fun K => by
      rw [store_ptr (k := 3) (x := .agg (eN (l.getD k default))) b1 rfl rfl (ok_eN (n := l.getD k default)) (Nat.le_refl _), bs_some]; rfl
    rw [show ([.int .i64 0, .int .i64 0, .nils] : List V).length = 3 from rfl]
    refine (hst _).2 ?_
    have k2 : Keep s1 (s1.put s.n (.row (eN (l.getD k default)) 0 0)) (fun x => x = s.n) := .put w1 b1 rfl
    have hlt : ∀ {x}, idOf v x → x < s.n := fun hx => vo_lt hV hw hx
    have hSt : St (s1.put s.n (.row (eN (l.getD k default)) 0 0)) v l ars out s.n k :=
      ⟨k2.wf, (hV.keep k1' fun _ _ h => h).keep k2 fun x hx => by have := hlt hx; omega, S.get_put_self, g2, by omega, fun x hx => by have := sortN_kids g2 x hx; omega, fun hx => by have := hlt hx; omega⟩
    generalize s1.put s.n (.row (eN (l.getD k default)) 0 0) = s2 at hSt
    have K : RvK (fun v1 _ => v1 = tupV r) l ars d out i j k v := fun out' s' hw' hV' hs => by
      refine r7_Value.p2_s fun _ => ?_
      rw [bin_inc (by omega), bo_some]
      refine ih (j + 1) (by omega) (by omega) out' s' (by rw [stepV_len hs]; exact ho) hV' ?_
      rw [← hr]
      simp only [foldV, Int.toNat_natCast]
      rw [hs]
    have KN : stepV l ars out k = none → (fun v1 (_ : S) => v1 = tupV r) (tupV (0, false)) s2 := fun hs => by
      show tupV (0, false) = tupV r
      rw [← hr]
      simp only [foldV, Int.toNat_natCast]
      rw [hs]; rfl
    refine hSt.op ?_
    rw [bin_eql, bo_some, br_bool]
    split
    · rename_i h1
      have h1 := of_decide_eq_true h1
      refine get_int k1 ?_
      refine hSt.imm ?_
      rw [hk]
      refine put_at' hSt.vo hSt.wf hSt.lt fun s' hw' ho' _ => ?_
      refine K _ s' hw' ho' ?_
      unfold stepV; rw [if_pos h1]
    · rename_i h1
      have h1 : ¬ (l.getD k default).op = 1 := fun e => h1 (decide_eq_true e)
      refine hSt.op ?_
      rw [bin_eql, bo_some, br_bool]
      split
      · rename_i h2
        have h2 := of_decide_eq_true h2
        refine hSt.imm ?_
        rw [bin_lss, bo_some]
        exact rv_p3 hSt K KN k1 hk h1 _ (decide_eq_decide.2 ⟨fun e => ⟨h2, e⟩, fun e => e.2⟩)
      · rename_i h2
        have h2 : ¬ (l.getD k default).op = 2 := fun e => h2 (decide_eq_true e)
        exact rv_p3 hSt K KN k1 hk h1 false (decide_eq_false fun e => h2 e.1).symm

theorem r7_Value_pu {l : List Node} {ars : List Int} {i : Int} (hi : rng i) (hb : l.length < 1000) (hok : ∀ n ∈ l, n.Ok) : Pu Pg F.r7_Value [eNodes l, .int .i64 i, eInts ars] (tupV (valS l ars i)) := by
  refine Pu.fl r7_Value_k rfl (r7_Value_c (r7_Value.p0_s fun hw => ?_))
  refine (r7_Sort_pu hi (by omega) (hlen_of hok)).c (.cons (cv_nodes _) (.cons (Cv.int _ _) .nil)) ?_
  rw [bin_neq, bo_some, br_bool]
  split
  · rename_i h
    have h : ¬ sortS l i = 1 := by simpa using h
    show tupV (0, false) = _
    unfold valS; rw [if_neg h]
  · rename_i h
    have h : sortS l i = 1 := by simpa using h
    have hr : 0 ≤ i ∧ i < l.length := by
      unfold sortS at h
      split at h
      · simp at h
      · omega
    obtain ⟨q, rfl⟩ := Int.eq_ofNat_of_zero_le hr.1
    have hq : q < l.length := by omega
    refine (r7_Dependencies_pu hi (by omega) (hlen_of hok)).c (.cons (cv_nodes _) (.cons (Cv.int _ _) .nil)) ?_
    show bo (bin .add (.int .i64 (q : Int)) (.int .i64 1)) _
    rw [bin_inc (by omega), bo_some]
    refine mk_one hw (Nat.le_refl _) (by decide) (by omega) fun v s1 hw1 hL _ _ => ?_
    have hD := dp hq
    have hdl := hD.len
    refine rv_p1 hb hq (deps_in hq) (by omega) _ 0 rfl (Nat.zero_le _) (List.replicate (q + 1) 0) s1 (by simp) (by rw [Vo, List.map_replicate, List.length_replicate]; exact hL) ?_
    unfold valS
    rw [if_pos h]; rfl
end Go.Am.YtmjaimpkjjkliaaGreat
namespace Go.Am.YtmjaimpkjjkliaaGreat
open Go.Proofs
set_option linter.unusedVariables false

theorem fk_Args_pu {a b raw : Int} (ha : rng a) (hb : rng b) : Pu Pg F.fk_Args [.int .i64 a, .int .i64 b, .int .i64 raw] (eInts [wordS a raw, wordS b raw]) := by
  refine Pu.fz fk_Args_k (fk_Args_c (fk_Args.p0_s fun hw => ?_))
  refine (fk_Word_pu ha).c (.cons (.int _ _) (.cons (.int _ _) .nil)) ?_
  refine (fk_Word_pu hb).c (.cons (.int _ _) (.cons (.int _ _) .nil)) ?_
  refine bslk (cs := [.int .i64 (wordS a raw), .int .i64 (wordS b raw)]) hw rfl rfl fun s1 w1 n1 g1 k1 => ?_
  exact Ls.ints (l := [wordS a raw, wordS b raw]) (.of rfl g1 (Nat.le_refl _))

/-- A list of arguments, as the code has it. -/
def Ag (v : V) : Prop := ∃ ars : List Int, Cv v (eInts ars)
theorem value_same {s : S} {l : List Node} {i : Int} {v : V} {R : V → S → Prop} {K : V → S → Prop} (hi : rng i) (hb : l.length < 1000) (hok : ∀ n ∈ l, n.Ok) (ha : Ag v) (hK : ∀ r : Int × Bool, C Pg F.r7_Value [eNodes l, .int .i64 i, v] s (fun v1 s1 => v1 = tupV r ∧ s1 = s) → K (tupV r) s) :
    C Pg F.eval_Value [eNodes l, .int .i64 i, v] s K := by
  obtain ⟨ars, hc⟩ := ha
  refine (eval_Value_pu (ars := ars) hi hb hok).c (.cons (cv_nodes _) (.cons (Cv.int _ _) (.cons hc .nil))) ?_
  exact hK _ ((r7_Value_pu (ars := ars) hi hb hok).c (.cons (cv_nodes _) (.cons (Cv.int _ _) (.cons hc .nil))) ⟨rfl, rfl⟩)

abbrev RTv : V → S → Prop := fun v1 _ => v1 = .bool true
section
variable {raw ag xs : V} {n3 i3 : V} {l : List Node} (hb : l.length < 1000) (hok : ∀ n ∈ l, n.Ok)
include hb hok

theorem vr_p3 {i : Int} (hi : rng i) (hib : i < 4611686018427387904) {id : Nat} {cs : List V} (hcs : ∀ v ∈ cs, Ag v) (hcl : cs.length = 4) {s : S} (K : l9_EvalValueReference.p2 RTv raw ag (eNodes l) (.int .i64 (i + 1)) xs n3 i3 s) (hL : Ls s 1 (.sl id 0 0 4 1) cs 4) :
    ∀ m j : Nat, 4 - j = m → j ≤ 4 → l9_EvalValueReference.p3 RTv raw ag (eNodes l) (.int .i64 i) xs n3 i3 (.sl id 0 0 4 1) (.int .i64 4) (.int .i64 (j : Int)) s := by
  intro m
  induction m with
  | zero =>
    intro j hm hj
    obtain rfl : j = 4 := by omega
    refine l9_EvalValueReference.p3_s fun hw => ?_
    rw [bin_lss, bo_some, br_bool, if_neg (by simp), bin_add (by unfold rng at hi; omega) (by omega), bo_some]
    exact K
  | succ m ih =>
    intro j hm hj
    refine l9_EvalValueReference.p3_s fun hw => ?_
    rw [bin_lss, bo_some, br_bool, if_pos (by simp; omega)]
    obtain ⟨c, hc⟩ : ∃ c, cs[j]? = some c := ⟨cs[j]'(by omega), List.getElem?_eq_getElem _⟩
    refine get_one hL (by omega) hc ?_
    refine value_same (R := RTv) hi hb hok (hcs c (List.mem_of_getElem? hc)) fun r hr => ?_
    show bo (some (.int .i64 r.1)) _
    rw [bo_some]
    show bo (some (.bool r.2)) _
    rw [bo_some]
    refine hr.mono fun v1 s1 h => ?_
    obtain ⟨rfl, rfl⟩ := h
    show bo (some (.int .i64 r.1)) _
    rw [bo_some]
    show bo (some (.bool r.2)) _
    rw [bo_some, bin_neq, bo_some, br_bool, if_neg (by simp)]
    show bo (some (.bool (!(r.2 == r.2)))) _
    rw [bo_some, beq_self_eq_true]
    refine l9_EvalValueReference.p4_s fun hw => ?_
    rw [br_bool, if_neg (by simp), bin_inc (by omega), bo_some]
    exact ih (j + 1) (by omega) (by omega)

theorem vr_p2 {I : S → Prop} (hI : ∀ s s', I s → Keep s s' (fun _ => False) → I s') (ha : ∃ a b, ag = eInts [a, b]) (hraw : ∃ r, raw = eInts r) (K : ∀ s', I s' → bo (Am.bin .add i3 (.int .i64 1)) fun y => l9_EvalValueReference.p1 RTv raw ag xs n3 y s') :
    ∀ (m : Nat) (i : Int), ((l.length : Int) + 1 - i).toNat = m → -1 ≤ i → i ≤ l.length + 1 → ∀ s, I s → l9_EvalValueReference.p2 RTv raw ag (eNodes l) (.int .i64 i) xs n3 i3 s := by
  intro m
  induction m with
  | zero =>
    intro i hm h1 h2 s hs
    refine l9_EvalValueReference.p2_s fun hw => ?_
    rw [vLen_eS, bo_some, bin_leq, bo_some, br_bool, if_neg (by simp; omega)]
    exact K s hs
  | succ m ih =>
    intro i hm h1 h2 s hs
    refine l9_EvalValueReference.p2_s fun hw => ?_
    rw [vLen_eS, bo_some, bin_leq, bo_some, br_bool, if_pos (by simp; omega)]
    obtain ⟨a, b, rfl⟩ := ha
    obtain ⟨r, rfl⟩ := hraw
    show bo (some (.lit [.int .i64 a, .int .i64 b] 1)) _
    rw [bo_some]
    have hel : vElems 1 [.nils, .nils, .nils, .nils] [(0, eInts [a, b]), (1, .lit [.int .i64 a, .int .i64 b] 1), (2, .nils), (3, eInts r)] = some [eInts [a, b], .lit [.int .i64 a, .int .i64 b] 1, .nils, eInts r] := by
      simp [vElems, setAt]; rfl
    refine bslk hw hel rfl fun s1 w1 n1 g1 k1 => ?_
    show bo (some (.int .i64 4)) _
    rw [bo_some]
    refine vr_p3 hb hok (by unfold rng; omega) (by omega) (cs := [eInts [a, b], .lit [.int .i64 a, .int .i64 b] 1, .nils, eInts r]) ?_ rfl (ih (i + 1) (by omega) (by omega) (by omega) s1 (hI _ _ hs k1)) (.of rfl g1 (Nat.le_refl _)) 4 0 rfl (by decide)
    intro v hv
    simp only [List.mem_cons, List.not_mem_nil, or_false] at hv
    rcases hv with rfl | rfl | rfl | rfl
    · exact ⟨_, cv_ints _⟩
    · exact ⟨[a], .lit (.cons (.int _ _) .nil)⟩
    · exact ⟨[], .nilsE⟩
    · exact ⟨_, cv_ints _⟩
end

theorem vr_p1 {id : Nat} {raw ag : V} (ha : ∃ a b, ag = eInts [a, b]) (hraw : ∃ r, raw = eInts r) {ls : List (List Node)} (h3 : ls.length = 3) (hls : ∀ l ∈ ls, l.length < 1000 ∧ ∀ n ∈ l, n.Ok) :
    ∀ m j : Nat, 3 - j = m → j ≤ 3 → ∀ s, Ls s 1 (.sl id 0 0 3 1) (ls.map eNodes) 3 → l9_EvalValueReference.p1 RTv raw ag (.sl id 0 0 3 1) (.int .i64 3) (.int .i64 (j : Int)) s := by
  intro m
  induction m with
  | zero =>
    intro j hm hj s hL
    obtain rfl : j = 3 := by omega
    refine l9_EvalValueReference.p1_s fun hw => ?_
    rw [bin_lss, bo_some, br_bool, if_neg (by simp)]
    exact ex_all.c .nil rfl
  | succ m ih =>
    intro j hm hj s hL
    refine l9_EvalValueReference.p1_s fun hw => ?_
    rw [bin_lss, bo_some, br_bool, if_pos (by simp; omega)]
    have hj' : j < ls.length := by omega
    refine get_one hL (by omega) (c := eNodes ls[j]) (by simp [hj']) ?_
    obtain ⟨q1, q2⟩ := hls ls[j] (List.getElem_mem _)
    refine vr_p2 q1 q2 (I := fun s => Ls s 1 (.sl id 0 0 3 1) (ls.map eNodes) 3) (fun s s' h k => h.keep k fun _ _ h => h) ha hraw (fun s' hs' => ?_) _ (-1) rfl (by omega) (by omega) s hL
    rw [bin_inc (by omega), bo_some]
    exact ih (j + 1) (by omega) (by omega) s' hs'

theorem evr_pu {l raw : List Int} (hl : ∀ k, rng (l.getD k 0)) {how at_ a b w : Int} (h1 : rng how) (h2 : rng at_) (ha : rng a) (hb : rng b) :
    Pu Pg F.l9_EvalValueReference [eInts l, .int .i64 how, .int .i64 at_, .int .i64 a, .int .i64 b, .int .i64 w, eInts raw] (.bool true) := by
  refine Pu.fl l9_EvalValueReference_k rfl (l9_EvalValueReference_c (l9_EvalValueReference.p0_s fun hw => ?_))
  refine (fk_Args_pu ha hb).c (.cons (.int _ _) (.cons (.int _ _) (.cons (.int _ _) .nil))) ?_
  obtain ⟨x, ⟨hx, hxl⟩, hN⟩ := fk_Nodes_pu (b := true) hl
  obtain ⟨x2, ⟨hx2, hxl2⟩, hN2⟩ := fk_Nodes_pu (b := false) hl
  refine hN.c (.cons (cv_ints _) (.cons (.bool _) .nil)) ?_
  refine hN2.c (.cons (cv_ints _) (.cons (.bool _) .nil)) ?_
  refine hN.c (.cons (cv_ints _) (.cons (.bool _) .nil)) ?_
  have hx3 := hx.three
  obtain ⟨y, ⟨hy0, hyl, hyok⟩, hM⟩ := fk_Mutate_pu (l := x) (by omega) (by omega) hx.ok (fun n hn => by have := hx.small n hn; omega) h1 h2
  refine hM.c (.cons (cv_nodes _) (.cons (.int _ _) (.cons (.int _ _) .nil))) ?_
  have hel : vElems 1 [.nils, .nils, .nils] [(0, eNodes x), (1, eNodes x2), (2, eNodes y)] = some [eNodes x, eNodes x2, eNodes y] := by
    simp [vElems, setAt]; rfl
  refine bslk hw hel rfl fun s1 w1 n1 g1 k1 => ?_
  show bo (some (.int .i64 3)) _
  rw [bo_some]
  refine vr_p1 ⟨_, _, rfl⟩ ⟨_, rfl⟩ (ls := [x, x2, y]) rfl (fun l hl => ?_) 3 0 rfl (by decide) s1 (.of rfl g1 (Nat.le_refl _))
  simp only [List.mem_cons, List.not_mem_nil, or_false] at hl
  rcases hl with rfl | rfl | rfl
  · exact ⟨hx.len, hx.ok⟩
  · exact ⟨hx2.len, hx2.ok⟩
  · exact ⟨by omega, hyok⟩
theorem evr_row {l raw : List Int} (hl : ∀ k, rng (l.getD k 0)) {how at_ a b w : Int} (h1 : rng how) (h2 : rng at_) (ha : rng a) (hb : rng b) (_ : rng w) (_ : ∀ k, rng (raw.getD k 0)) :
    Pu Pg F.l9_EvalValueReference [eInts l, .int .i64 how, .int .i64 at_, .int .i64 a, .int .i64 b, .int .i64 w, eInts raw] (.bool true) := evr_pu hl h1 h2 ha hb
end Go.Am.YtmjaimpkjjkliaaGreat
