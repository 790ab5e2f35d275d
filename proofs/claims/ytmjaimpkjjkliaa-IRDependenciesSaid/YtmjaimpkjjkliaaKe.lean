/- Chapter 7, the reference: the sorts. -/
import Derived.Test.YtmjaimpkjjkliaaKd
import Derived.Test.YtmjaimpkjjkliaaVrs
namespace Go.Am.Ytmjaimpkjjkliaa
open Go.Proofs
set_option linter.unusedVariables false

/-- One more alternative of a row of 'or's. -/
theorem or_next {A B : Prop} [Decidable B] {b : Bool} {G : Bool → Prop} (hb : b = true ↔ A) (h : ∀ b' : Bool, (b' = true ↔ (A ∨ B)) → G b') : if b = true then G true else G (decide B) := by
  cases b with
  | true => simp only [if_true]; exact h true (by simp [hb.1 rfl])
  | false =>
    have : ¬ A := fun ha => by simpa using hb.2 ha
    simp only [Bool.false_eq_true, if_false]
    exact h _ (by simp [this])
abbrev arR (op : Int) : V → S → Prop := fun v1 _ => v1 = .tup [.int .i64 (arityS op).1, .bool (arityS op).2]
def ar0 (op : Int) : Prop := op = 1 ∨ op = 2 ∨ op = 3 ∨ op = 26
def ar1 (op : Int) : Prop := op = 20 ∨ op = 21 ∨ op = 24 ∨ op = 25
def ar2 (op : Int) : Prop := (4 ≤ op ∧ op ≤ 19) ∨ op = 23 ∨ op = 27 ∨ op = 29
def ar3 (op : Int) : Prop := op = 22 ∨ op = 28
theorem ra_p11 {op : Int} {s : S} (h0 : ¬ ar0 op) (h1 : ¬ ar1 op) (h2 : ¬ ar2 op) (b : Bool) (hb : b = true ↔ ar3 op) : fullingref7_Arity.p11 (arR op) (.int .i64 op) (.bool b) s := by
  unfold ar0 at h0; unfold ar1 at h1; unfold ar2 at h2; unfold ar3 at hb
  refine fullingref7_Arity.p11_s fun _ => ?_
  cases b with
  | true =>
    have := hb.1 rfl
    rw [br_bool, if_pos rfl]
    show _ = _
    unfold arityS
    rw [if_neg h0, if_neg h1, if_neg (by omega), if_pos this]
  | false =>
    have h3 : ¬ (op = 22 ∨ op = 28) := fun h => by simpa using hb.2 h
    rw [br_bool, if_neg (by simp), bin_eql, bo_some, br_bool]
    have hp : ∀ b : Bool, (b = true ↔ (op = 30 ∨ op = 31)) → fullingref7_Arity.p12 (arR op) (.bool b) s := by
      intro b hb2
      refine fullingref7_Arity.p12_s fun _ => ?_
      cases b with
      | true =>
        rw [br_bool, if_pos rfl]
        show _ = _
        unfold arityS
        rw [if_neg h0, if_neg h1, if_neg (by omega), if_neg h3, if_pos (hb2.1 rfl)]
      | false =>
        have h4 : ¬ (op = 30 ∨ op = 31) := fun h => by simpa using hb2.2 h
        rw [br_bool, if_neg (by simp)]
        show _ = _
        unfold arityS
        rw [if_neg h0, if_neg h1, if_neg (by omega), if_neg h3, if_neg h4, if_neg (by omega)]
    rw [bin_eql, bo_some]
    exact or_next (A := op = 30) (B := op = 31) (by simp) hp
theorem ra_p10 {op : Int} {s : S} (h0 : ¬ ar0 op) (h1 : ¬ ar1 op) (b : Bool) (hb : b = true ↔ ar2 op) : fullingref7_Arity.p10 (arR op) (.int .i64 op) (.bool b) s := by
  refine fullingref7_Arity.p10_s fun _ => ?_
  cases b with
  | true =>
    have h2 := hb.1 rfl
    unfold ar0 at h0; unfold ar1 at h1; unfold ar2 at h2
    rw [br_bool, if_pos rfl]
    show _ = _
    unfold arityS
    rw [if_neg h0, if_neg h1]
    by_cases h : op = 23 ∨ op = 27 ∨ op = 29
    · rw [if_pos h]
    · rw [if_neg h, if_neg (by omega), if_neg (by omega), if_pos (by omega)]
  | false =>
    have h2 : ¬ ar2 op := fun h => by simpa using hb.2 h
    rw [br_bool, if_neg (by simp), bin_eql, bo_some, br_bool, bin_eql, bo_some]
    exact or_next (A := op = 22) (B := op = 28) (by simp) (ra_p11 h0 h1 h2)
theorem ra_p6 {op : Int} {s : S} (h0 : ¬ ar0 op) (b : Bool) (hb : b = true ↔ ar1 op) : fullingref7_Arity.p6 (arR op) (.int .i64 op) (.bool b) s := by
  refine fullingref7_Arity.p6_s fun _ => ?_
  cases b with
  | true =>
    have h1 := hb.1 rfl
    unfold ar0 at h0; unfold ar1 at h1
    rw [br_bool, if_pos rfl]
    show _ = _
    unfold arityS
    rw [if_neg h0, if_pos h1]
  | false =>
    have h1 : ¬ ar1 op := fun h => by simpa using hb.2 h
    have k9 : ∀ b : Bool, (b = true ↔ (((4 ≤ op ∧ op ≤ 19) ∨ op = 23) ∨ op = 27)) → fullingref7_Arity.p9 (arR op) (.int .i64 op) (.bool b) s := by
      intro b hb
      refine fullingref7_Arity.p9_s fun _ => ?_
      rw [br_bool, bin_eql, bo_some]
      exact or_next (B := op = 29) hb fun b' h => ra_p10 h0 h1 b' (by rw [h]; unfold ar2; omega)
    have k8 : ∀ b : Bool, (b = true ↔ ((4 ≤ op ∧ op ≤ 19) ∨ op = 23)) → fullingref7_Arity.p8 (arR op) (.int .i64 op) (.bool b) s := by
      intro b hb
      refine fullingref7_Arity.p8_s fun _ => ?_
      rw [br_bool, bin_eql, bo_some]
      exact or_next (B := op = 27) hb k9
    have k7 : ∀ b : Bool, (b = true ↔ (4 ≤ op ∧ op ≤ 19)) → fullingref7_Arity.p7 (arR op) (.int .i64 op) (.bool b) s := by
      intro b hb
      refine fullingref7_Arity.p7_s fun _ => ?_
      rw [br_bool, bin_eql, bo_some]
      exact or_next (B := op = 23) hb k8
    rw [br_bool, if_neg (by simp), bin_geq, bo_some, br_bool, bin_leq, bo_some]
    split
    · rename_i h; exact k7 _ (by simp at h; simp [h])
    · rename_i h; exact k7 _ (by simp at h; simp; omega)
theorem fullingref7_Arity_pu (op : Int) : Pu Pg F.fullingref7_Arity [.int .i64 op] (.tup [.int .i64 (arityS op).1, .bool (arityS op).2]) := by
  refine Pu.fl fullingref7_Arity_k rfl (fullingref7_Arity_c (fullingref7_Arity.p0_s fun _ => ?_))
  have k3 : ∀ b : Bool, (b = true ↔ (((op = 1 ∨ op = 2) ∨ op = 3) ∨ op = 26)) → fullingref7_Arity.p3 (arR op) (.int .i64 op) (.bool b) ⟨.nil, 0⟩ := by
    intro b hb
    refine fullingref7_Arity.p3_s fun _ => ?_
    cases b with
    | true =>
      have := hb.1 rfl
      rw [br_bool, if_pos rfl]
      show _ = _
      unfold arityS
      rw [if_pos (by omega)]
    | false =>
      have h0 : ¬ ar0 op := fun h => by have := hb.2 (by unfold ar0 at h; omega); simp at this
      have k5 : ∀ b : Bool, (b = true ↔ ((op = 20 ∨ op = 21) ∨ op = 24)) → fullingref7_Arity.p5 (arR op) (.int .i64 op) (.bool b) ⟨.nil, 0⟩ := by
        intro b hb
        refine fullingref7_Arity.p5_s fun _ => ?_
        rw [br_bool, bin_eql, bo_some]
        exact or_next (B := op = 25) hb fun b' h => ra_p6 h0 b' (by rw [h]; unfold ar1; omega)
      have k4 : ∀ b : Bool, (b = true ↔ (op = 20 ∨ op = 21)) → fullingref7_Arity.p4 (arR op) (.int .i64 op) (.bool b) ⟨.nil, 0⟩ := by
        intro b hb
        refine fullingref7_Arity.p4_s fun _ => ?_
        rw [br_bool, bin_eql, bo_some]
        exact or_next (B := op = 24) hb k5
      rw [br_bool, if_neg (by simp), bin_eql, bo_some, br_bool, bin_eql, bo_some]
      exact or_next (A := op = 20) (B := op = 21) (by simp) k4
  have k2 : ∀ b : Bool, (b = true ↔ ((op = 1 ∨ op = 2) ∨ op = 3)) → fullingref7_Arity.p2 (arR op) (.int .i64 op) (.bool b) ⟨.nil, 0⟩ := by
    intro b hb
    refine fullingref7_Arity.p2_s fun _ => ?_
    rw [br_bool, bin_eql, bo_some]
    exact or_next (B := op = 26) hb k3
  have k1 : ∀ b : Bool, (b = true ↔ (op = 1 ∨ op = 2)) → fullingref7_Arity.p1 (arR op) (.int .i64 op) (.bool b) ⟨.nil, 0⟩ := by
    intro b hb
    refine fullingref7_Arity.p1_s fun _ => ?_
    rw [br_bool, bin_eql, bo_some]
    exact or_next (B := op = 3) hb k2
  rw [bin_eql, bo_some, br_bool, bin_eql, bo_some]
  exact or_next (A := op = 1) (B := op = 2) (by simp) k1

theorem fullingref7_sortIf_pu (b : Bool) (n : Int) : Pu Pg F.fullingref7_sortIf [.bool b, .int .i64 n] (.int .i64 (if b = true then n else 0)) := by
  refine Pu.fl fullingref7_sortIf_k rfl (fullingref7_sortIf_c (fullingref7_sortIf.p0_s fun _ => ?_))
  cases b <;> simp

theorem rf_av_p1 {t : List Int} (hb : t.length < 1073741824) {R : V → S → Prop} {s : S} : ∀ n i, t.length - i = n → i ≤ t.length → R (.bool ((t.drop i).all fun x => decide (x = 1))) s →
    fullingref7_allValues.p1 R (eInts t) (.int .i64 (i : Int)) s := by
  intro n
  induction n with
  | zero =>
    intro i hn hi hR
    obtain rfl : i = t.length := by omega
    refine fullingref7_allValues.p1_s fun _ => ?_
    simpa using hR
  | succ n ih =>
    intro i hn hi hR
    have h1 : i < t.length := by omega
    rw [drop_getD t i h1, List.all_cons] at hR
    refine fullingref7_allValues.p1_s fun _ => ?_
    simp only [vLen_eS, bo_some, bin_lss, br_bool, decide_eq_true_eq, Int.ofNat_lt]
    rw [if_pos h1]
    refine get_int h1 ?_
    simp only [bo_some, bin_neq, br_bool]
    by_cases hx : t.getD i 0 = 1
    · have hx' : t.getD i default = 1 := hx
      simp only [hx, hx', decide_true, Bool.not_true, Bool.false_eq_true, if_false, Bool.true_and] at hR ⊢
      rw [bin_inc (by omega), bo_some]
      exact ih (i + 1) (by omega) (by omega) hR
    · have hx' : ¬ t.getD i default = 1 := hx
      simp only [hx, hx', decide_false, Bool.not_false, if_true, Bool.false_and] at hR ⊢
      exact hR
theorem fullingref7_allValues_pu {t : List Int} (hb : t.length < 1073741824) : Pu Pg F.fullingref7_allValues [eInts t] (.bool (t.all fun x => decide (x = 1))) := by
  refine Pu.fl fullingref7_allValues_k rfl (fullingref7_allValues_c (fullingref7_allValues.p0_s fun _ => ?_))
  exact rf_av_p1 hb t.length 0 rfl (Nat.zero_le _) rfl

def maxImmS (op : Int) : Int :=
  if op = 2 then 5 else if op = 3 then 255 else if op = 23 ∨ op = 28 then 3 else if op = 27 then 1000016 else if op = 30 then 7 else if op = 31 then 15 else if op = 25 then 15 else -1
theorem fullingref7_maxImm_pu (op : Int) : Pu Pg F.fullingref7_maxImm [.int .i64 op] (.int .i64 (maxImmS op)) := by
  refine Pu.fl fullingref7_maxImm_k rfl (fullingref7_maxImm_c (fullingref7_maxImm.p0_s fun _ => ?_))
  repeat' first
    | (refine fullingref7_maxImm.p1_s fun _ => ?_)
    | split
    | simp only [bin_eql, bo_some, br_bool, decide_eq_true_eq]
  all_goals simp_all [maxImmS]
def validImmR (op n : Int) : Bool :=
  if op = 1 then true else if maxImmS op < 0 then decide (n = 0) else decide (0 ≤ n) && decide (n ≤ maxImmS op) && (decide (op ≠ 27) || decide (0 < n))
theorem fullingref7_ValidImm_pu (op n : Int) : Pu Pg F.fullingref7_ValidImm [.int .i64 op, .int .i64 n] (.bool (validImmR op n)) := by
  refine Pu.fl fullingref7_ValidImm_k rfl (fullingref7_ValidImm_c (fullingref7_ValidImm.p0_s fun _ => ?_))
  simp only [bin_eql, bo_some, br_bool, decide_eq_true_eq]
  split
  · rename_i h; unfold validImmR; rw [if_pos h]
  · rename_i h1
    refine (fullingref7_maxImm_pu op).c (.cons (.int _ _) .nil) ?_
    simp only [bin_lss, bin_geq, bin_leq, bo_some, br_bool, decide_eq_true_eq]
    split
    · rename_i h; unfold validImmR; rw [if_neg h1, if_pos h]
    · rename_i h2
      have hs : validImmR op n = (decide (0 ≤ n) && decide (n ≤ maxImmS op) && (decide (op ≠ 27) || decide (0 < n))) := by unfold validImmR; rw [if_neg h1, if_neg h2]
      rw [hs]
      have hp1 : ∀ b : Bool, fullingref7_ValidImm.p1 (fun v1 _ => v1 = .bool (b && (decide (op ≠ 27) || decide (0 < n)))) (.int .i64 op) (.int .i64 n) (.bool b) ⟨.nil, 0⟩ := by
        intro b
        refine fullingref7_ValidImm.p1_s fun _ => ?_
        simp only [gT_bool, bin_neq, bo_some]
        cases b with
        | false =>
          simp only [Bool.false_eq_true, if_false]
          refine fullingref7_ValidImm.p2_s fun _ => ?_
          rw [gF_undef]
          refine fullingref7_ValidImm.p3_s fun _ => ?_
          simp
        | true =>
          simp only [if_true]
          refine fullingref7_ValidImm.p2_s fun _ => ?_
          simp only [gF_bool, bin_gtr, bo_some]
          by_cases h : op = 27
          · simp only [h, decide_true, Bool.not_true, Bool.false_eq_true, if_false]
            refine fullingref7_ValidImm.p3_s fun _ => ?_
            simp
          · simp only [h, decide_false, Bool.not_false, if_true]
            refine fullingref7_ValidImm.p3_s fun _ => ?_
            simp [h]
      split
      · rename_i h0
        have := hp1 (decide (n ≤ maxImmS op))
        rw [decide_eq_true h0, Bool.true_and]; exact this
      · rename_i h0
        have := hp1 false
        rw [decide_eq_false h0, Bool.false_and, Bool.false_and]
        exact this
end Go.Am.Ytmjaimpkjjkliaa
