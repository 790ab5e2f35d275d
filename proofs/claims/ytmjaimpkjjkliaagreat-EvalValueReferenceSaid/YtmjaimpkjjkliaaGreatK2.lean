/- Chapter 7, the reference: the sorts. -/
import Derived.Test.YtmjaimpkjjkliaaGreatK1
import Derived.Test.YtmjaimpkjjkliaaGreatVrs
namespace Go.Am.YtmjaimpkjjkliaaGreat
open Go.Proofs
set_option linter.unusedVariables false

/-- One more alternative of a row of 'or's. -/
theorem or_next {A B : Prop} [Decidable B] {b : Bool} {G : Bool → Prop} (hb : b = true ↔ A) (h : ∀ b' : Bool, (b' = true ↔ (A ∨ B)) → G b') : if b = true then G true else G (decide B) := by
  cases b with
  | true => simp only [if_true]; exact h true (by simp [hb.1 rfl])
  | false =>
    have : ¬ A := fun ha => by simpa using hb.2 ha
    simp only [Bool.false_eq_true, if_false]
    exact h _ (by simp [this])
abbrev arR (op : Int) : V → S → Prop := fun v1 _ => v1 = .tup [.int .i64 (arityS op).1, .bool (arityS op).2]
def ar0 (op : Int) : Prop := op = 1 ∨ op = 2 ∨ op = 3 ∨ op = 26
def ar1 (op : Int) : Prop := op = 20 ∨ op = 21 ∨ op = 24 ∨ op = 25
def ar2 (op : Int) : Prop := (4 ≤ op ∧ op ≤ 19) ∨ op = 23 ∨ op = 27 ∨ op = 29
def ar3 (op : Int) : Prop := op = 22 ∨ op = 28
theorem ra_p11 {op : Int} {s : S} (h0 : ¬ ar0 op) (h1 : ¬ ar1 op) (h2 : ¬ ar2 op) (b : Bool) (hb : b = true ↔ ar3 op) : r7_Arity.p11 (arR op) (.int .i64 op) (.bool b) s := by
  unfold ar0 at h0; unfold ar1 at h1; unfold ar2 at h2; unfold ar3 at hb
  refine r7_Arity.p11_s fun _ => ?_
  cases b with
  | true =>
    have := hb.1 rfl
    rw [br_bool, if_pos rfl]
    show _ = _
    unfold arityS
    rw [if_neg h0, if_neg h1, if_neg (by omega), if_pos this]
  | false =>
    have h3 : ¬ (op = 22 ∨ op = 28) := fun h => by simpa using hb.2 h
    rw [br_bool, if_neg (by simp), bin_eql, bo_some, br_bool]
    have hp : ∀ b : Bool, (b = true ↔ (op = 30 ∨ op = 31)) → r7_Arity.p12 (arR op) (.bool b) s := by
      intro b hb2
      refine r7_Arity.p12_s fun _ => ?_
      cases b with
      | true =>
        rw [br_bool, if_pos rfl]
        show _ = _
        unfold arityS
        rw [if_neg h0, if_neg h1, if_neg (by omega), if_neg h3, if_pos (hb2.1 rfl)]
      | false =>
        have h4 : ¬ (op = 30 ∨ op = 31) := fun h => by simpa using hb2.2 h
        rw [br_bool, if_neg (by simp)]
        show _ = _
        unfold arityS
        rw [if_neg h0, if_neg h1, if_neg (by omega), if_neg h3, if_neg h4, if_neg (by omega)]
    rw [bin_eql, bo_some]
    exact or_next (A := op = 30) (B := op = 31) (by simp) hp
theorem ra_p10 {op : Int} {s : S} (h0 : ¬ ar0 op) (h1 : ¬ ar1 op) (b : Bool) (hb : b = true ↔ ar2 op) : r7_Arity.p10 (arR op) (.int .i64 op) (.bool b) s := by
  refine r7_Arity.p10_s fun _ => ?_
  cases b with
  | true =>
    have h2 := hb.1 rfl
    unfold ar0 at h0; unfold ar1 at h1; unfold ar2 at h2
    rw [br_bool, if_pos rfl]
    show _ = _
    unfold arityS
    rw [if_neg h0, if_neg h1]
    by_cases h : op = 23 ∨ op = 27 ∨ op = 29
    · rw [if_pos h]
    · rw [if_neg h, if_neg (by omega), if_neg (by omega), if_pos (by omega)]
  | false =>
    have h2 : ¬ ar2 op := fun h => by simpa using hb.2 h
    rw [br_bool, if_neg (by simp), bin_eql, bo_some, br_bool, bin_eql, bo_some]
    exact or_next (A := op = 22) (B := op = 28) (by simp) (ra_p11 h0 h1 h2)
theorem ra_p6 {op : Int} {s : S} (h0 : ¬ ar0 op) (b : Bool) (hb : b = true ↔ ar1 op) : r7_Arity.p6 (arR op) (.int .i64 op) (.bool b) s := by
  refine r7_Arity.p6_s fun _ => ?_
  cases b with
  | true =>
    have h1 := hb.1 rfl
    unfold ar0 at h0; unfold ar1 at h1
    rw [br_bool, if_pos rfl]
    show _ = _
    unfold arityS
    rw [if_neg h0, if_pos h1]
  | false =>
    have h1 : ¬ ar1 op := fun h => by simpa using hb.2 h
    have k9 : ∀ b : Bool, (b = true ↔ (((4 ≤ op ∧ op ≤ 19) ∨ op = 23) ∨ op = 27)) → r7_Arity.p9 (arR op) (.int .i64 op) (.bool b) s := by
      intro b hb
      refine r7_Arity.p9_s fun _ => ?_
      rw [br_bool, bin_eql, bo_some]
      exact or_next (B := op = 29) hb fun b' h => ra_p10 h0 h1 b' (by rw [h]; unfold ar2; omega)
    have k8 : ∀ b : Bool, (b = true ↔ ((4 ≤ op ∧ op ≤ 19) ∨ op = 23)) → r7_Arity.p8 (arR op) (.int .i64 op) (.bool b) s := by
      intro b hb
      refine r7_Arity.p8_s fun _ => ?_
      rw [br_bool, bin_eql, bo_some]
      exact or_next (B := op = 27) hb k9
    have k7 : ∀ b : Bool, (b = true ↔ (4 ≤ op ∧ op ≤ 19)) → r7_Arity.p7 (arR op) (.int .i64 op) (.bool b) s := by
      intro b hb
      refine r7_Arity.p7_s fun _ => ?_
      rw [br_bool, bin_eql, bo_some]
      exact or_next (B := op = 23) hb k8
    rw [br_bool, if_neg (by simp), bin_geq, bo_some, br_bool, bin_leq, bo_some]
    split
    · rename_i h; exact k7 _ (by simp at h; simp [h])
    · rename_i h; exact k7 _ (by simp at h; simp; omega)
theorem r7_Arity_pu (op : Int) : Pu Pg F.r7_Arity [.int .i64 op] (.tup [.int .i64 (arityS op).1, .bool (arityS op).2]) := by
  refine Pu.fl r7_Arity_k rfl (r7_Arity_c (r7_Arity.p0_s fun _ => ?_))
  have k3 : ∀ b : Bool, (b = true ↔ (((op = 1 ∨ op = 2) ∨ op = 3) ∨ op = 26)) → r7_Arity.p3 (arR op) (.int .i64 op) (.bool b) ⟨.nil, 0⟩ := by
    intro b hb
    refine r7_Arity.p3_s fun _ => ?_
    cases b with
    | true =>
      have := hb.1 rfl
      rw [br_bool, if_pos rfl]
      show _ = _
      unfold arityS
      rw [if_pos (by omega)]
    | false =>
      have h0 : ¬ ar0 op := fun h => by have := hb.2 (by unfold ar0 at h; omega); simp at this
      have k5 : ∀ b : Bool, (b = true ↔ ((op = 20 ∨ op = 21) ∨ op = 24)) → r7_Arity.p5 (arR op) (.int .i64 op) (.bool b) ⟨.nil, 0⟩ := by
        intro b hb
        refine r7_Arity.p5_s fun _ => ?_
        rw [br_bool, bin_eql, bo_some]
        exact or_next (B := op = 25) hb fun b' h => ra_p6 h0 b' (by rw [h]; unfold ar1; omega)
      have k4 : ∀ b : Bool, (b = true ↔ (op = 20 ∨ op = 21)) → r7_Arity.p4 (arR op) (.int .i64 op) (.bool b) ⟨.nil, 0⟩ := by
        intro b hb
        refine r7_Arity.p4_s fun _ => ?_
        rw [br_bool, bin_eql, bo_some]
        exact or_next (B := op = 24) hb k5
      rw [br_bool, if_neg (by simp), bin_eql, bo_some, br_bool, bin_eql, bo_some]
      exact or_next (A := op = 20) (B := op = 21) (by simp) k4
  have k2 : ∀ b : Bool, (b = true ↔ ((op = 1 ∨ op = 2) ∨ op = 3)) → r7_Arity.p2 (arR op) (.int .i64 op) (.bool b) ⟨.nil, 0⟩ := by
    intro b hb
    refine r7_Arity.p2_s fun _ => ?_
    rw [br_bool, bin_eql, bo_some]
    exact or_next (B := op = 26) hb k3
  have k1 : ∀ b : Bool, (b = true ↔ (op = 1 ∨ op = 2)) → r7_Arity.p1 (arR op) (.int .i64 op) (.bool b) ⟨.nil, 0⟩ := by
    intro b hb
    refine r7_Arity.p1_s fun _ => ?_
    rw [br_bool, bin_eql, bo_some]
    exact or_next (B := op = 3) hb k2
  rw [bin_eql, bo_some, br_bool, bin_eql, bo_some]
  exact or_next (A := op = 1) (B := op = 2) (by simp) k1

theorem r7_sortIf_pu (b : Bool) (n : Int) : Pu Pg F.r7_sortIf [.bool b, .int .i64 n] (.int .i64 (if b = true then n else 0)) := by
  refine Pu.fl r7_sortIf_k rfl (r7_sortIf_c (r7_sortIf.p0_s fun _ => ?_))
  cases b <;> simp

theorem rf_av_p1 {t : List Int} (hb : t.length < 1073741824) {R : V → S → Prop} {s : S} : ∀ n i, t.length - i = n → i ≤ t.length → R (.bool ((t.drop i).all fun x => decide (x = 1))) s →
    r7_allValues.p1 R (eInts t) (.int .i64 (i : Int)) s := by
  intro n
  induction n with
  | zero =>
    intro i hn hi hR
    obtain rfl : i = t.length := by omega
    refine r7_allValues.p1_s fun _ => ?_
    simpa using hR
  | succ n ih =>
    intro i hn hi hR
    have h1 : i < t.length := by omega
    rw [drop_getD t i h1, List.all_cons] at hR
    refine r7_allValues.p1_s fun _ => ?_
    simp only [vLen_eS, bo_some, bin_lss, br_bool, decide_eq_true_eq, Int.ofNat_lt]
    rw [if_pos h1]
    refine get_int h1 ?_
    simp only [bo_some, bin_neq, br_bool]
    by_cases hx : t.getD i 0 = 1
    · have hx' : t.getD i default = 1 := hx
      simp only [hx, hx', decide_true, Bool.not_true, Bool.false_eq_true, if_false, Bool.true_and] at hR ⊢
      rw [bin_inc (by omega), bo_some]
      exact ih (i + 1) (by omega) (by omega) hR
    · have hx' : ¬ t.getD i default = 1 := hx
      simp only [hx, hx', decide_false, Bool.not_false, if_true, Bool.false_and] at hR ⊢
      exact hR
theorem r7_allValues_pu {t : List Int} (hb : t.length < 1073741824) : Pu Pg F.r7_allValues [eInts t] (.bool (t.all fun x => decide (x = 1))) := by
  refine Pu.fl r7_allValues_k rfl (r7_allValues_c (r7_allValues.p0_s fun _ => ?_))
  exact rf_av_p1 hb t.length 0 rfl (Nat.zero_le _) rfl

def maxImmS (op : Int) : Int :=
  if op = 2 then 5 else if op = 3 then 255 else if op = 23 ∨ op = 28 then 3 else if op = 27 then 1000016 else if op = 30 then 7 else if op = 31 then 15 else if op = 25 then 15 else -1
theorem r7_maxImm_pu (op : Int) : Pu Pg F.r7_maxImm [.int .i64 op] (.int .i64 (maxImmS op)) := by
  refine Pu.fl r7_maxImm_k rfl (r7_maxImm_c (r7_maxImm.p0_s fun _ => ?_))
  repeat' first
    | (refine r7_maxImm.p1_s fun _ => ?_)
    | split
    | simp only [bin_eql, bo_some, br_bool, decide_eq_true_eq]
  all_goals simp_all [maxImmS]
def validImmR (op n : Int) : Bool :=
  if op = 1 then true else if maxImmS op < 0 then decide (n = 0) else decide (0 ≤ n) && decide (n ≤ maxImmS op) && (decide (op ≠ 27) || decide (0 < n))
theorem r7_ValidImm_pu (op n : Int) : Pu Pg F.r7_ValidImm [.int .i64 op, .int .i64 n] (.bool (validImmR op n)) := by
  refine Pu.fl r7_ValidImm_k rfl (r7_ValidImm_c (r7_ValidImm.p0_s fun _ => ?_))
  simp only [bin_eql, bo_some, br_bool, decide_eq_true_eq]
  split
  · rename_i h; unfold validImmR; rw [if_pos h]
  · rename_i h1
    refine (r7_maxImm_pu op).c (.cons (.int _ _) .nil) ?_
    simp only [bin_lss, bin_geq, bin_leq, bo_some, br_bool, decide_eq_true_eq]
    split
    · rename_i h; unfold validImmR; rw [if_neg h1, if_pos h]
    · rename_i h2
      have hs : validImmR op n = (decide (0 ≤ n) && decide (n ≤ maxImmS op) && (decide (op ≠ 27) || decide (0 < n))) := by unfold validImmR; rw [if_neg h1, if_neg h2]
      rw [hs]
      have hp1 : ∀ b : Bool, r7_ValidImm.p1 (fun v1 _ => v1 = .bool (b && (decide (op ≠ 27) || decide (0 < n)))) (.int .i64 op) (.int .i64 n) (.bool b) ⟨.nil, 0⟩ := by
        intro b
        refine r7_ValidImm.p1_s fun _ => ?_
        simp only [gT_bool, bin_neq, bo_some]
        cases b with
        | false =>
          simp only [Bool.false_eq_true, if_false]
          refine r7_ValidImm.p2_s fun _ => ?_
          rw [gF_undef]
          refine r7_ValidImm.p3_s fun _ => ?_
          simp
        | true =>
          simp only [if_true]
          refine r7_ValidImm.p2_s fun _ => ?_
          simp only [gF_bool, bin_gtr, bo_some]
          by_cases h : op = 27
          · simp only [h, decide_true, Bool.not_true, Bool.false_eq_true, if_false]
            refine r7_ValidImm.p3_s fun _ => ?_
            simp
          · simp only [h, decide_false, Bool.not_false, if_true]
            refine r7_ValidImm.p3_s fun _ => ?_
            simp [h]
      split
      · rename_i h0
        have := hp1 (decide (n ≤ maxImmS op))
        rw [decide_eq_true h0, Bool.true_and]; exact this
      · rename_i h0
        have := hp1 false
        rw [decide_eq_false h0, Bool.false_and, Bool.false_and]
        exact this
end Go.Am.YtmjaimpkjjkliaaGreat
namespace Go.Am.YtmjaimpkjjkliaaGreat
open Go.Proofs
set_option linter.unusedVariables false

theorem vi_eq {l : List Node} {n : Node} (h : n.op ≠ 25) : validImmS l n = validImmR n.op n.imm := by
  unfold validImmS validImmR maxImmS
  rw [Bool.eq_iff_iff]
  repeat' split
  all_goals (try simp_all)
  all_goals omega

/-- What is known of the loop that a loop's result names. -/
structure LoopOk (l : List Node) (n : Node) : Prop where
  kid : KidOk l n
  odd : (l.getD (n.kids.getD 0 0).toNat default).kids.length % 2 = 1
  three : 3 ≤ (l.getD (n.kids.getD 0 0).toNat default).kids.length
  few : lv (l.getD (n.kids.getD 0 0).toNat default).kids.length ≤ 16

def arBad (op : Int) (k : List Int) : Prop := (arityS op).2 = false ∨ (0 ≤ (arityS op).1 ∧ (arityS op).1 ≠ k.length)
theorem vo_bad {op : Int} {k : List Int} (h : arBad op k) : validOperandsS op k = false := by unfold arBad at h; unfold validOperandsS; rw [if_pos h]
theorem len1 {k : List Int} (h : k.length = 1) : ∃ a, k = [a] := by match k, h with | [a], _ => exact ⟨a, rfl⟩
theorem len2 {k : List Int} (h : k.length = 2) : ∃ a b, k = [a, b] := by match k, h with | [a, b], _ => exact ⟨a, b, rfl⟩
theorem len3 {k : List Int} (h : k.length = 3) : ∃ a b c, k = [a, b, c] := by match k, h with | [a, b, c], _ => exact ⟨a, b, c, rfl⟩
theorem ar_len {op m : Int} {k : List Int} (h : ¬ arBad op k) (ha : arityS op = (m, true)) (hm : 0 ≤ m) : (k.length : Int) = m := by
  unfold arBad at h
  rw [ha] at h
  simp only [not_or, not_and, Decidable.not_not] at h
  exact (h.2 hm).symm
/-- A sort, where the immediate is in range. -/
theorem finS_of {l : List Node} {n : Node} {k : List Int} (h25 : n.op ≠ 25) (hv : validImmR n.op n.imm = true) : finS l n k = if validOperandsS n.op k = false then 0 else
    if n.op = 31 then 3 else if n.op = 26 ∨ n.op = 27 ∨ n.op = 28 ∨ n.op = 29 ∨ n.op = 30 then 2 else if n.op = 22 then k.getD 1 0 else if n.op = 3 then (if n.imm.tmod 16 = 0 then 2 else 1) else 1 := by
  unfold finS
  rw [vi_eq h25, hv]
  simp only [Bool.true_eq_false, or_false, h25, if_false]

theorem rd1 {h : Heap} {a : Int} {l : List Int} {k : V → Prop} (hk : k (.int .i64 a)) : bo (vIaddr 1 (eInts (a :: l)) (.int .i64 0)) fun y => bo (loadAt h none y) k := get_int (i := 0) (by simp) hk
theorem rd2 {h : Heap} {a b : Int} {l : List Int} {k : V → Prop} (hk : k (.int .i64 b)) : bo (vIaddr 1 (eInts (a :: b :: l)) (.int .i64 1)) fun y => bo (loadAt h none y) k := get_int (i := 1) (by simp) hk
theorem rd3 {h : Heap} {a b c : Int} {l : List Int} {k : V → Prop} (hk : k (.int .i64 c)) : bo (vIaddr 1 (eInts (a :: b :: c :: l)) (.int .i64 2)) fun y => bo (loadAt h none y) k := get_int (i := 2) (by simp) hk

theorem rf_sortIf {s : S} {b : Bool} {m : Int} {Q : V → S → Prop} (h : Q (.int .i64 (if b = true then m else 0)) s) : C Pg F.r7_sortIf [.bool b, .int .i64 m] s Q :=
  (r7_sortIf_pu b m).c (.cons (.bool _) (.cons (.int _ _) .nil)) h

/-- The last part of a list, as an argument. -/
theorem vSlice_drop {l : List Int} {i : Nat} (h : i ≤ l.length) : ∃ v, vSlice 1 (eInts l) (some (.int .i64 (i : Int))) none = some v ∧ Cv v (eInts (l.drop i)) := by
  unfold eInts eS
  cases l with
  | nil =>
    have : i = 0 := by simpa using h
    subst this
    exact ⟨.emp, rfl, .emp⟩
  | cons a l =>
    simp only [List.length_cons, eL, vSlice, vBounds, natOf_nat]
    have hle : (Nat.ble i (l.length + 1) && Nat.ble (l.length + 1) (l.length + 1)) = true := by simp; simpa using h
    rw [hle]
    simp only [cond_true]
    cases hb : Nat.beq i (l.length + 1) with
    | true =>
      have := Nat.eq_of_beq_eq_true hb
      subst this
      refine ⟨.emp, rfl, ?_⟩
      rw [show (a :: l).drop (l.length + 1) = [] by simp]
      exact .emp
    | false =>
      have hne := Nat.ne_of_beq_eq_false hb
      have hlt : i < (a :: l).length := by simp at h ⊢; omega
      refine ⟨_, rfl, ?_⟩
      have hd : ((a :: l).flatMap e1).drop (i * 1) = ((a :: l).drop i).flatMap e1 := by
        rw [flat_drop (α := Int) e1_len (a :: l) i hlt, drop_getD (a :: l) i hlt]; rfl
      rw [hd]
      have hlen : l.length + 1 - i = ((a :: l).drop i).length := by simp
      rw [hlen]
      cases hx : (a :: l).drop i with
      | nil => simp at hx; simp at hlt; omega
      | cons b t => exact .lit (.refl fun v hv => by obtain ⟨a, _, ha⟩ := List.mem_flatMap.1 hv; exact e1_cv a v ha)

/-- The middle of a list, as an argument. -/
theorem vSlice_mid {l : List Int} {i j : Nat} (h : i ≤ j) (hj : j ≤ l.length) : ∃ v, vSlice 1 (eInts l) (some (.int .i64 (i : Int))) (some (.int .i64 (j : Int))) = some v ∧ Cv v (eInts ((l.drop i).take (j - i))) := by
  unfold eInts eS
  cases l with
  | nil =>
    have : j = 0 := by simpa using hj
    subst this
    have : i = 0 := by omega
    subst this
    exact ⟨.emp, rfl, .emp⟩
  | cons a l =>
    simp only [List.length_cons, eL, vSlice, vBounds, natOf_nat]
    have hle : (Nat.ble i j && Nat.ble j (l.length + 1)) = true := by simp; exact ⟨h, by simpa using hj⟩
    rw [hle]
    simp only [cond_true]
    cases hb : Nat.beq i j with
    | true =>
      have := Nat.eq_of_beq_eq_true hb
      subst this
      refine ⟨.emp, rfl, ?_⟩
      rw [show ((a :: l).drop i).take (i - i) = [] by simp]
      exact .emp
    | false =>
      have hne := Nat.ne_of_beq_eq_false hb
      have hlt : i < (a :: l).length := by simp at hj ⊢; omega
      refine ⟨_, rfl, ?_⟩
      have hd : ((a :: l).flatMap e1).drop (i * 1) = ((a :: l).drop i).flatMap e1 := by
        rw [flat_drop (α := Int) e1_len (a :: l) i hlt, drop_getD (a :: l) i hlt]; rfl
      rw [hd]
      have := cv_take e1_cv ((a :: l).drop i) (j - i) (by simp at hj ⊢; omega)
      obtain ⟨m, hm⟩ : ∃ m, j - i = m + 1 := ⟨j - i - 1, by omega⟩
      rw [hm] at this ⊢
      exact this

theorem rf_av {s : S} {v : V} {t : List Int} {Q : V → S → Prop} (hv : Cv v (eInts t)) (hb : t.length < 1073741824) (h : Q (.bool (t.all fun x => decide (x = 1))) s) : C Pg F.r7_allValues [v] s Q :=
  (r7_allValues_pu hb).c (.cons hv .nil) h

theorem all_iff {l : List Int} : (l.all fun x => decide (x = 1)) = true ↔ ∀ i, i < l.length → l.getD i 0 = 1 := by
  rw [List.all_eq_true]
  constructor
  · intro h i hi
    have := h l[i] (List.getElem_mem _)
    simpa [List.getD, hi] using this
  · intro h x hx
    obtain ⟨i, hi, rfl⟩ := List.mem_iff_getElem.1 hx
    have := h i hi
    simpa [List.getD, hi] using this
theorem match_iff : ∀ {k w : List Int}, k.length = w.length → (matchS k w = true ↔ ∀ i, i < k.length → k.getD i 0 = w.getD i 0) := by
  intro k
  induction k with
  | nil => intro w h; simp [matchS]
  | cons a k ih =>
    intro w h
    cases w with
    | nil => simp at h
    | cons b w =>
      simp only [matchS, Bool.and_eq_true, decide_eq_true_eq]
      rw [ih (by simpa using h)]
      constructor
      · rintro ⟨rfl, h2⟩ i hi
        cases i with
        | zero => rfl
        | succ i => simpa using h2 i (by simpa using hi)
      · intro h2
        refine ⟨by simpa using h2 0 (by simp), fun i hi => ?_⟩
        simpa using h2 (i + 1) (by simpa using hi)
theorem loopSorts_get {n i : Nat} (h : i < n) : (loopSortsS n).getD i 0 = if i = lv n + 1 then 2 else if i = 0 then 2 else 1 := by
  unfold loopSortsS
  simp only [List.getD_eq_getElem?_getD, List.getElem?_set, List.length_set, List.length_replicate, List.getElem?_replicate]
  by_cases h1 : lv n + 1 = i
  · subst h1; simp [h]
  · rw [if_neg h1, if_neg (show ¬ i = lv n + 1 from fun e => h1 e.symm)]
    by_cases h0 : 0 = i
    · subst h0; simp [h]
    · rw [if_neg h0, if_neg (show ¬ i = 0 from fun e => h0 e.symm), if_pos h]; rfl
/-- A loop's operands. -/
theorem loop_match {k : List Int} (h3 : 3 ≤ k.length) (ho : k.length % 2 = 1) :
    matchS k (loopSortsS k.length) = (decide (k.getD 0 0 = 2) && (((k.drop 1).take (k.length / 2)).all fun x => decide (x = 1)) && decide (k.getD (k.length / 2 + 1) 0 = 2) && ((k.drop (k.length / 2 + 2)).all fun x => decide (x = 1))) := by
  have hlv : lv k.length = k.length / 2 := by unfold lv; omega
  have hll : k.length = (loopSortsS k.length).length := by simp [loopSortsS]
  rw [Bool.eq_iff_iff, match_iff hll]
  simp only [Bool.and_eq_true, decide_eq_true_eq, all_iff]
  have g1 : ∀ i, ((k.drop 1).take (k.length / 2)).getD i 0 = if i < k.length / 2 then k.getD (1 + i) 0 else 0 := by
    intro i
    simp only [List.getD_eq_getElem?_getD, List.getElem?_take, List.getElem?_drop]
    split <;> rfl
  have g2 : ∀ i, (k.drop (k.length / 2 + 2)).getD i 0 = k.getD (k.length / 2 + 2 + i) 0 := by
    intro i
    simp only [List.getD_eq_getElem?_getD, List.getElem?_drop]
  constructor
  · intro h
    refine ⟨⟨⟨?_, fun i hi => ?_⟩, ?_⟩, fun i hi => ?_⟩
    · have := h 0 (by omega)
      rw [loopSorts_get (by omega)] at this
      simpa using this
    · simp at hi
      rw [g1, if_pos (by omega), h (1 + i) (by omega), loopSorts_get (by omega), if_neg (by omega), if_neg (by omega)]
    · rw [h _ (by omega), loopSorts_get (by omega), if_pos (by omega)]
    · simp at hi
      rw [g2, h _ (by omega), loopSorts_get (by omega), if_neg (by omega), if_neg (by omega)]
  · rintro ⟨⟨⟨h0, h1⟩, h2⟩, h4⟩ i hi
    rw [loopSorts_get hi, hlv]
    split
    · rename_i e; rw [e]; exact h2
    · split
      · rename_i e; rw [e]; exact h0
      · rcases Nat.lt_or_ge (k.length / 2 + 1) i with hc | hc
        · have := h4 (i - (k.length / 2 + 2)) (by simp; omega)
          rw [g2, show k.length / 2 + 2 + (i - (k.length / 2 + 2)) = i by omega] at this
          exact this
        · have := h1 (i - 1) (by simp; omega)
          rw [g1, if_pos (by omega), show 1 + (i - 1) = i by omega] at this
          exact this

theorem vo_fix {op : Int} {k : List Int} (h : ¬ arBad op k) (h31 : op ≠ 31) (h30 : op ≠ 30) (h22 : op ≠ 22) : validOperandsS op k = matchS k (operandSortsS op) := by
  unfold arBad at h
  unfold validOperandsS
  rw [if_neg h, if_neg h31, if_neg h30, if_neg fun e => h22 e.1]
theorem vo_30 {op : Int} {k : List Int} (h : ¬ arBad op k) (h30 : op = 30) : validOperandsS op k = (decide (1 ≤ k.length) && decide (k.length ≤ 7) && decide (k.getD 0 0 = 2) && (k.drop 1).all (fun x => decide (x = 1))) := by
  unfold arBad at h
  unfold validOperandsS
  rw [if_neg h, if_neg (by omega), if_pos h30]
theorem vo_31 {op : Int} {k : List Int} (h : ¬ arBad op k) (h31 : op = 31) : validOperandsS op k = (decide (3 ≤ k.length) && decide (k.length % 2 = 1) && decide (lv k.length ≤ 16) && matchS k (loopSortsS k.length)) := by
  unfold arBad at h
  unfold validOperandsS
  rw [if_neg h, if_pos h31]
theorem rf_ns_p4t {l : List Node} {n : Node} {k : List Int} {s : S} (h : finS l n k = 0) : r7_nodeSort.p4 (fun v1 _ => v1 = .int .i64 (finS l n k)) (eNodes l) (eInts k) (.ptr 0 0 0 3) (.bool true) s := by
  refine r7_nodeSort.p4_s fun _ => ?_
  rw [br_bool, if_pos rfl]
  show _ = _
  rw [h]

/-- The last operations: calls, loops, and all that have values only. -/
theorem rf_ns_p8 {l : List Node} {n : Node} {k : List Int} {s : S} (hb : k.length < 1073741824) (hs : s.h.get 0 = some (.row (eN n) 0 0)) (har : ¬ arBad n.op k) (hv : validImmR n.op n.imm = true)
    (hno : n.op ≠ 3 ∧ n.op ≠ 26 ∧ n.op ≠ 22 ∧ n.op ≠ 23 ∧ n.op ≠ 24 ∧ n.op ≠ 25) (b : Bool) (hb2 : b = true ↔ (n.op = 27 ∨ n.op = 29)) :
    r7_nodeSort.p8 (fun v1 _ => v1 = .int .i64 (finS l n k)) (eInts k) (.int .i64 n.op) (.bool b) s := by
  obtain ⟨n3, n26, n22, n23, n24, n25⟩ := hno
  have hf := finS_of (l := l) (k := k) n25 hv
  refine r7_nodeSort.p8_s fun _ => ?_
  cases b with
  | true =>
    have ho := hb2.1 rfl
    have hl : k.length = 2 := by
      have := ar_len (m := 2) har (by rcases ho with h | h <;> rw [h] <;> decide) (by decide)
      omega
    obtain ⟨a, c, rfl⟩ := len2 hl
    have hvo : validOperandsS n.op [a, c] = (decide (a = 2) && decide (c = 1)) := by
      rw [vo_fix har (by omega) (by omega) n22]
      have : operandSortsS n.op = [2, 1] := by unfold operandSortsS; rw [if_neg n22, if_pos (by omega)]
      rw [this]; simp [matchS]
    rw [hvo, if_neg (show ¬ n.op = 31 by omega), if_pos (show n.op = 26 ∨ n.op = 27 ∨ n.op = 28 ∨ n.op = 29 ∨ n.op = 30 by omega)] at hf
    rw [br_bool, if_pos rfl]
    refine rd1 ?_
    simp only [bin_eql, bo_some, br_bool, decide_eq_true_eq]
    have k9 : ∀ b : Bool, b = (decide (a = 2) && decide (c = 1)) → r7_nodeSort.p9 (fun v1 _ => v1 = .int .i64 (finS l n [a, c])) (.bool b) s := by
      intro b hb
      refine r7_nodeSort.p9_s fun _ => rf_sortIf ?_
      show _ = _
      rw [hf, ← hb]; cases b <;> rfl
    split
    · rename_i h
      refine rd2 ?_
      simp only [bin_eql, bo_some]
      exact k9 _ (by simp [h])
    · rename_i h
      exact k9 _ (by simp [h])
  | false =>
    have ho : ¬ (n.op = 27 ∨ n.op = 29) := fun h => by simpa using hb2.2 h
    rw [br_bool, if_neg (by simp), bin_eql, bo_some, br_bool]
    split
    · rename_i h28
      have h28 : n.op = 28 := by simpa using h28
      have hl : k.length = 3 := by
        have := ar_len (m := 3) har (by rw [h28]; decide) (by decide)
        omega
      obtain ⟨a, c, d, rfl⟩ := len3 hl
      have hvo : validOperandsS n.op [a, c, d] = (decide (a = 2) && decide (c = 1) && decide (d = 1)) := by
        rw [vo_fix har (by omega) (by omega) n22]
        have : operandSortsS n.op = [2, 1, 1] := by rw [h28]; decide
        rw [this]; simp [matchS, Bool.and_assoc]
      rw [hvo, if_neg (show ¬ n.op = 31 by omega), if_pos (show n.op = 26 ∨ n.op = 27 ∨ n.op = 28 ∨ n.op = 29 ∨ n.op = 30 by omega)] at hf
      have k20 : ∀ b : Bool, b = (decide (a = 2) && decide (c = 1) && decide (d = 1)) → r7_nodeSort.p20 (fun v1 _ => v1 = .int .i64 (finS l n [a, c, d])) (.bool b) s := by
        intro b hb
        refine r7_nodeSort.p20_s fun _ => rf_sortIf ?_
        show _ = _
        rw [hf, ← hb]; cases b <;> rfl
      have k10 : ∀ b : Bool, b = (decide (a = 2) && decide (c = 1)) → r7_nodeSort.p10 (fun v1 _ => v1 = .int .i64 (finS l n [a, c, d])) (eInts [a, c, d]) (.bool b) s := by
        intro b hb
        refine r7_nodeSort.p10_s fun _ => ?_
        rw [br_bool]
        split
        · rename_i h
          refine rd3 ?_
          rw [bin_eql, bo_some]
          exact k20 _ (by rw [← hb, h]; simp)
        · rename_i h
          exact k20 _ (by rw [← hb]; simp at h; simp [h])
      refine rd1 ?_
      simp only [bin_eql, bo_some, br_bool, decide_eq_true_eq]
      split
      · rename_i h
        refine rd2 ?_
        simp only [bin_eql, bo_some]
        exact k10 _ (by simp [h])
      · rename_i h
        exact k10 _ (by simp [h])
    · rename_i h28
      have h28 : n.op ≠ 28 := by simpa using h28
      rw [bin_eql, bo_some, br_bool]
      split
      · rename_i h30
        have h30 : n.op = 30 := by simpa using h30
        have hvo := vo_30 har h30
        rw [hvo, if_neg (show ¬ n.op = 31 by omega), if_pos (show n.op = 26 ∨ n.op = 27 ∨ n.op = 28 ∨ n.op = 29 ∨ n.op = 30 by omega)] at hf
        have k19 : ∀ b : Bool, b = (decide (1 ≤ k.length) && decide (k.length ≤ 7) && decide (k.getD 0 0 = 2) && (k.drop 1).all (fun x => decide (x = 1))) → r7_nodeSort.p19 (fun v1 _ => v1 = .int .i64 (finS l n k)) (.bool b) s := by
          intro b hb
          refine r7_nodeSort.p19_s fun _ => rf_sortIf ?_
          show _ = _
          rw [hf, ← hb]; cases b <;> rfl
        have k18 : ∀ b : Bool, b = (decide (1 ≤ k.length) && decide (k.length ≤ 7) && decide (k.getD 0 0 = 2)) → r7_nodeSort.p18 (fun v1 _ => v1 = .int .i64 (finS l n k)) (eInts k) (.bool b) s := by
          intro b hb
          refine r7_nodeSort.p18_s fun _ => ?_
          rw [br_bool]
          split
          · rename_i h
            rw [h] at hb
            have hb' := hb.symm
            simp only [Bool.and_eq_true, decide_eq_true_eq] at hb'
            obtain ⟨v, hv1, hv2⟩ := vSlice_drop (l := k) (i := 1) (by omega)
            have : vSlice 1 (eInts k) (some (.int .i64 1)) none = some v := hv1
            rw [this, bo_some]
            refine rf_av hv2 (by simp; omega) ?_
            exact k19 _ (by rw [← hb]; rfl)
          · rename_i h
            exact k19 _ (by rw [← hb]; simp at h; simp [h])
        have k11 : ∀ b : Bool, b = (decide (1 ≤ k.length) && decide (k.length ≤ 7)) → r7_nodeSort.p11 (fun v1 _ => v1 = .int .i64 (finS l n k)) (eInts k) (.bool b) s := by
          intro b hb
          refine r7_nodeSort.p11_s fun _ => ?_
          rw [br_bool]
          split
          · rename_i h
            rw [h] at hb
            have hb' := hb.symm
            simp only [Bool.and_eq_true, decide_eq_true_eq] at hb'
            refine get_int (i := 0) (by omega) ?_
            rw [bin_eql, bo_some]
            exact k18 _ (by rw [← hb]; rfl)
          · rename_i h
            exact k18 _ (by rw [← hb]; simp at h; simp [h])
        simp only [vLen_eS, bo_some, bin_geq, bin_leq, br_bool, decide_eq_true_eq]
        have e1 : ((1 : Int) ≤ k.length) ↔ 1 ≤ k.length := by omega
        have e2 : ((k.length : Int) ≤ 7) ↔ k.length ≤ 7 := by omega
        split
        · rename_i h
          exact k11 _ (by rw [e1] at h; simp [h, e2])
        · rename_i h
          exact k11 _ (by rw [e1] at h; simp [h])
      · rename_i h30
        have h30 : n.op ≠ 30 := by simpa using h30
        rw [bin_eql, bo_some, br_bool]
        split
        · rename_i h31
          have h31 : n.op = 31 := by simpa using h31
          have hvo := vo_31 har h31
          rw [hvo, if_pos h31] at hf
          have hq : (k.length : Int).tdiv 2 = ((k.length / 2 : Nat) : Int) := rfl
          have hr : (k.length : Int).tmod 2 = ((k.length % 2 : Nat) : Int) := rfl
          rw [vLen_eS, bo_some, bin_quo (by decide) (by rw [hq]; omega) (by rw [hq]; omega), bo_some, bo_some, bin_rem (by decide), bo_some, bin_eql, bo_some, br_bool, hq, hr]
          have hspec : (decide (3 ≤ k.length) && decide (k.length % 2 = 1) && decide (lv k.length ≤ 16) && matchS k (loopSortsS k.length)) =
              (decide (k.length % 2 = 1) && decide (1 ≤ k.length / 2) && decide (k.length / 2 ≤ 16) && decide (k.getD 0 0 = 2) && (((k.drop 1).take (k.length / 2)).all fun x => decide (x = 1)) && decide (k.getD (k.length / 2 + 1) 0 = 2) && ((k.drop (k.length / 2 + 2)).all fun x => decide (x = 1))) := by
            by_cases h3 : 3 ≤ k.length ∧ k.length % 2 = 1
            · have hlv : lv k.length = k.length / 2 := by unfold lv; omega
              rw [loop_match h3.1 h3.2, hlv]
              simp only [h3.1, h3.2, decide_true, Bool.true_and, show 1 ≤ k.length / 2 by omega, Bool.and_assoc]
            · by_cases ho : k.length % 2 = 1
              · have h3' : ¬ 3 ≤ k.length := fun h => h3 ⟨h, ho⟩
                have h1' : ¬ 1 ≤ k.length / 2 := by omega
                simp [h3', h1']
              · simp [ho]
          rw [hspec] at hf
          generalize hA : ((k.drop 1).take (k.length / 2)).all (fun x => decide (x = 1)) = A at hf
          generalize hB : (k.drop (k.length / 2 + 2)).all (fun x => decide (x = 1)) = B at hf
          have k17 : ∀ b : Bool, b = (decide (k.length % 2 = 1) && decide (1 ≤ k.length / 2) && decide (k.length / 2 ≤ 16) && decide (k.getD 0 0 = 2) && A && decide (k.getD (k.length / 2 + 1) 0 = 2) && B) → r7_nodeSort.p17 (fun v1 _ => v1 = .int .i64 (finS l n k)) (.bool b) s := by
            intro b hb
            refine r7_nodeSort.p17_s fun _ => rf_sortIf ?_
            show _ = _
            rw [hf, ← hb]; cases b <;> rfl
          have k16 : ∀ b : Bool, b = (decide (k.length % 2 = 1) && decide (1 ≤ k.length / 2) && decide (k.length / 2 ≤ 16) && decide (k.getD 0 0 = 2) && A && decide (k.getD (k.length / 2 + 1) 0 = 2)) → r7_nodeSort.p16 (fun v1 _ => v1 = .int .i64 (finS l n k)) (eInts k) (.int .i64 ((k.length / 2 : Nat) : Int)) (.bool b) s := by
            intro b hb
            refine r7_nodeSort.p16_s fun _ => ?_
            rw [br_bool]
            split
            · rename_i h
              rw [h] at hb
              have hb' := hb.symm
              simp only [Bool.and_eq_true, decide_eq_true_eq] at hb'
              rw [bin_add (by omega) (by omega), bo_some]
              obtain ⟨v, hv1, hv2⟩ := vSlice_drop (l := k) (i := k.length / 2 + 2) (by omega)
              have : vSlice 1 (eInts k) (some (.int .i64 (((k.length / 2 : Nat) : Int) + 2))) none = some v := hv1
              rw [this, bo_some]
              refine rf_av hv2 (by simp; omega) ?_
              exact k17 _ (by rw [hB, ← hb]; rfl)
            · rename_i h
              exact k17 _ (by rw [← hb]; simp at h; simp [h])
          have k15 : ∀ b : Bool, b = (decide (k.length % 2 = 1) && decide (1 ≤ k.length / 2) && decide (k.length / 2 ≤ 16) && decide (k.getD 0 0 = 2) && A) → r7_nodeSort.p15 (fun v1 _ => v1 = .int .i64 (finS l n k)) (eInts k) (.int .i64 ((k.length / 2 : Nat) : Int)) (.bool b) s := by
            intro b hb
            refine r7_nodeSort.p15_s fun _ => ?_
            rw [br_bool]
            split
            · rename_i h
              rw [h] at hb
              have hb' := hb.symm
              simp only [Bool.and_eq_true, decide_eq_true_eq] at hb'
              rw [bin_inc (by omega), bo_some]
              refine get_int (i := k.length / 2 + 1) (by omega) ?_
              rw [bin_eql, bo_some]
              exact k16 _ (by rw [← hb]; rfl)
            · rename_i h
              exact k16 _ (by rw [← hb]; simp at h; simp [h])
          have k14 : ∀ b : Bool, b = (decide (k.length % 2 = 1) && decide (1 ≤ k.length / 2) && decide (k.length / 2 ≤ 16) && decide (k.getD 0 0 = 2)) → r7_nodeSort.p14 (fun v1 _ => v1 = .int .i64 (finS l n k)) (eInts k) (.int .i64 ((k.length / 2 : Nat) : Int)) (.bool b) s := by
            intro b hb
            refine r7_nodeSort.p14_s fun _ => ?_
            rw [br_bool]
            split
            · rename_i h
              rw [h] at hb
              have hb' := hb.symm
              simp only [Bool.and_eq_true, decide_eq_true_eq] at hb'
              rw [bin_inc (by omega), bo_some]
              obtain ⟨v, hv1, hv2⟩ := vSlice_mid (l := k) (i := 1) (j := k.length / 2 + 1) (by omega) (by omega)
              have : vSlice 1 (eInts k) (some (.int .i64 1)) (some (.int .i64 ((k.length / 2 + 1 : Nat) : Int))) = some v := hv1
              rw [this, bo_some]
              refine rf_av hv2 (by simp; omega) ?_
              rw [Nat.add_sub_cancel]
              exact k15 _ (by rw [hA, ← hb]; rfl)
            · rename_i h
              exact k15 _ (by rw [← hb]; simp at h; simp [h])
          have k13 : ∀ b : Bool, b = (decide (k.length % 2 = 1) && decide (1 ≤ k.length / 2) && decide (k.length / 2 ≤ 16)) → r7_nodeSort.p13 (fun v1 _ => v1 = .int .i64 (finS l n k)) (eInts k) (.int .i64 ((k.length / 2 : Nat) : Int)) (.bool b) s := by
            intro b hb
            refine r7_nodeSort.p13_s fun _ => ?_
            rw [br_bool]
            split
            · rename_i h
              rw [h] at hb
              have hb' := hb.symm
              simp only [Bool.and_eq_true, decide_eq_true_eq] at hb'
              refine get_int (i := 0) (by omega) ?_
              rw [bin_eql, bo_some]
              exact k14 _ (by rw [← hb]; rfl)
            · rename_i h
              exact k14 _ (by rw [← hb]; simp at h; simp [h])
          have k12 : ∀ b : Bool, b = (decide (k.length % 2 = 1) && decide (1 ≤ k.length / 2)) → r7_nodeSort.p12 (fun v1 _ => v1 = .int .i64 (finS l n k)) (eInts k) (.int .i64 ((k.length / 2 : Nat) : Int)) (.bool b) s := by
            intro b hb
            refine r7_nodeSort.p12_s fun _ => ?_
            rw [br_bool]
            split
            · rename_i h
              rw [h] at hb
              rw [bin_leq, bo_some]
              exact k13 _ (by rw [← hb, Bool.true_and, Bool.eq_iff_iff]; simp only [decide_eq_true_eq]; omega)
            · rename_i h
              exact k13 _ (by rw [← hb]; simp at h; simp [h])
          split
          · rename_i h
            have h' : k.length % 2 = 1 := by simp at h; omega
            rw [bin_geq, bo_some]
            exact k12 _ (by rw [decide_eq_true h', Bool.true_and, Bool.eq_iff_iff]; simp only [decide_eq_true_eq]; omega)
          · rename_i h
            have h' : ¬ k.length % 2 = 1 := by simp at h; omega
            exact k12 _ (by simp [h'])
        · rename_i h31
          have h31 : n.op ≠ 31 := by simpa using h31
          refine rf_av (cv_ints k) hb ?_
          refine rf_sortIf ?_
          show _ = _
          have hvo : validOperandsS n.op k = (k.all fun x => decide (x = 1)) := by
            have hl := arity_len (by unfold arBad at har; exact har) h31 h30
            rw [vo_fix har h31 h30 n22]
            have hos : operandSortsS n.op = [1, 1] := by unfold operandSortsS; rw [if_neg n22, if_neg (by omega), if_neg h28, if_neg n24, if_neg n25]
            rw [hos] at hl ⊢
            match k, hl with
            | [], _ => rfl
            | [a], _ => simp [matchS]
            | [a, c], _ => simp [matchS]
            | _ :: _ :: _ :: _, h => simp at h
          rw [hf, hvo, if_neg h31, if_neg (show ¬ (n.op = 26 ∨ n.op = 27 ∨ n.op = 28 ∨ n.op = 29 ∨ n.op = 30) by omega), if_neg n22, if_neg n3]
          cases (k.all fun x => decide (x = 1)) <;> rfl
end Go.Am.YtmjaimpkjjkliaaGreat
namespace Go.Am.YtmjaimpkjjkliaaGreat
open Go.Proofs
set_option linter.unusedVariables false

theorem or_false' {b : Bool} {G : Bool → Prop} {c : Bool} (h : G (b && c)) (hb : b = true) : G c := by subst hb; exact h

/-- The middle operations. -/
theorem rf_ns_p4 {l : List Node} {n : Node} {k : List Int} {s : S} (hb : k.length < 1073741824) (hs : s.h.get 0 = some (.row (eN n) 0 0)) (hkl : k.length = n.kids.length) (har : ¬ arBad n.op k) (hv : validImmR n.op n.imm = true)
    (h25 : n.op = 25 → k.getD 0 0 = 3 → LoopOk l n) (hk3 : ∀ x ∈ k, x = 1 ∨ x = 2 ∨ x = 3) : r7_nodeSort.p4 (fun v1 _ => v1 = .int .i64 (finS l n k)) (eNodes l) (eInts k) (.ptr 0 0 0 3) (.bool false) s := by
  refine r7_nodeSort.p4_s fun _ => ?_
  rw [br_bool, if_neg (by simp)]
  refine fld hs (Nat.le_refl _) (by decide) rfl ?_
  rw [bin_eql, bo_some, br_bool]
  split
  · rename_i h3
    have h3 : n.op = 3 := by simpa using h3
    have hf := finS_of (l := l) (k := k) (by omega) hv
    have hl : k.length = 0 := by
      have := ar_len (m := 0) har (by rw [h3]; decide) (by decide)
      omega
    have hk : k = [] := by simpa using hl
    subst hk
    rw [vo_fix har (by omega) (by omega) (by omega), show matchS [] (operandSortsS n.op) = true from rfl, if_neg (by simp), if_neg (show ¬ n.op = 31 by omega), if_neg (show ¬ (n.op = 26 ∨ n.op = 27 ∨ n.op = 28 ∨ n.op = 29 ∨ n.op = 30) by omega),
      if_neg (show ¬ n.op = 22 by omega), if_pos h3] at hf
    refine fld hs (Nat.le_refl _) (by decide) rfl ?_
    rw [bin_rem (by decide), bo_some, bin_eql, bo_some, br_bool]
    split
    · rename_i h; show _ = _; rw [hf, if_pos (by simpa using h)]
    · rename_i h; show _ = _; rw [hf, if_neg (by simpa using h)]
  · rename_i h3
    have h3 : n.op ≠ 3 := by simpa using h3
    rw [bin_eql, bo_some, br_bool]
    split
    · rename_i h26
      have h26 : n.op = 26 := by simpa using h26
      have hf := finS_of (l := l) (k := k) (by omega) hv
      have hl : k.length = 0 := by
        have := ar_len (m := 0) har (by rw [h26]; decide) (by decide)
        omega
      have hk : k = [] := by simpa using hl
      subst hk
      rw [vo_fix har (by omega) (by omega) (by omega), show matchS [] (operandSortsS n.op) = true from rfl, if_neg (by simp), if_neg (show ¬ n.op = 31 by omega), if_pos (show n.op = 26 ∨ n.op = 27 ∨ n.op = 28 ∨ n.op = 29 ∨ n.op = 30 by omega)] at hf
      show _ = _; rw [hf]
    · rename_i h26
      have h26 : n.op ≠ 26 := by simpa using h26
      rw [bin_eql, bo_some, br_bool]
      split
      · rename_i h22
        have h22 : n.op = 22 := by simpa using h22
        have hf := finS_of (l := l) (k := k) (by omega) hv
        have hl : k.length = 3 := by
          have := ar_len (m := 3) har (by rw [h22]; decide) (by decide)
          omega
        obtain ⟨a, c, d, rfl⟩ := len3 hl
        have hvo : validOperandsS n.op [a, c, d] = if c = 2 then (decide (a = 1) && decide (d = 2)) else (decide (a = 1) && decide (c = 1) && decide (d = 1)) := by
          unfold arBad at har
          unfold validOperandsS
          rw [if_neg har, if_neg (show ¬ n.op = 31 by omega), if_neg (show ¬ n.op = 30 by omega)]
          have : operandSortsS n.op = [1, 1, 1] := by rw [h22]; decide
          by_cases hc : c = 2
          · rw [if_pos ⟨h22, hc⟩, if_pos hc]; rfl
          · rw [if_neg (fun h => hc h.2), if_neg hc, this]; simp [matchS, Bool.and_assoc]
        rw [hvo, if_neg (show ¬ n.op = 31 by omega), if_neg (show ¬ (n.op = 26 ∨ n.op = 27 ∨ n.op = 28 ∨ n.op = 29 ∨ n.op = 30) by omega), if_pos h22] at hf
        have hspec : finS l n [a, c, d] = if a ≠ 1 ∨ c ≠ d ∨ c = 3 then 0 else c := by
          rw [hf]
          have hc := hk3 c (by simp)
          by_cases ha : a = 1 <;> by_cases hd : c = d
          · subst ha; subst hd
            rcases hc with rfl | rfl | rfl <;> rfl
          · rw [if_pos (Or.inr (Or.inl hd))]
            have hd' : ¬ d = c := fun e => hd e.symm
            rcases hc with rfl | rfl | rfl <;> simp [hd']
          · rw [if_pos (Or.inl ha)]
            simp [ha]
          · rw [if_pos (Or.inl ha)]
            simp [ha]
        have k21 : ∀ b : Bool, (b = true ↔ (a ≠ 1 ∨ c ≠ d ∨ c = 3)) → r7_nodeSort.p21 (fun v1 _ => v1 = .int .i64 (finS l n [a, c, d])) (eInts [a, c, d]) (.bool b) s := by
          intro b hb
          refine r7_nodeSort.p21_s fun _ => ?_
          rw [br_bool]
          split
          · rename_i h; show _ = _; rw [hspec, if_pos (hb.1 h)]
          · rename_i h
            refine rd2 ?_
            show _ = _
            rw [hspec, if_neg fun hc => h (hb.2 hc)]
        have k5 : ∀ b : Bool, (b = true ↔ (a ≠ 1 ∨ c ≠ d)) → r7_nodeSort.p5 (fun v1 _ => v1 = .int .i64 (finS l n [a, c, d])) (eInts [a, c, d]) (.bool b) s := by
          intro b hb
          refine r7_nodeSort.p5_s fun _ => ?_
          rw [br_bool]
          split
          · rename_i h
            have := hb.1 h
            exact k21 true (by simp; omega)
          · rename_i h
            refine rd2 ?_
            rw [bin_eql, bo_some]
            have hn : ¬ (a ≠ 1 ∨ c ≠ d) := fun hc => h (hb.2 hc)
            exact k21 _ (by simp; omega)
        refine rd1 ?_
        rw [bin_neq, bo_some, br_bool]
        split
        · rename_i h
          exact k5 true (by simp at h; simp [h])
        · rename_i h
          refine rd2 (rd3 ?_)
          rw [bin_neq, bo_some]
          exact k5 _ (by simp at h; simp [h])
      · rename_i h22
        have h22 : n.op ≠ 22 := by simpa using h22
        rw [bin_eql, bo_some, br_bool]
        split
        · rename_i h23
          have h23 : n.op = 23 := by simpa using h23
          have hf := finS_of (l := l) (k := k) (by omega) hv
          have hl : k.length = 2 := by
            have := ar_len (m := 2) har (by rw [h23]; decide) (by decide)
            omega
          obtain ⟨a, c, rfl⟩ := len2 hl
          have hvo : validOperandsS n.op [a, c] = (decide (a = 2) && decide (c = 1)) := by
            rw [vo_fix har (by omega) (by omega) h22]
            have : operandSortsS n.op = [2, 1] := by rw [h23]; decide
            rw [this]; simp [matchS]
          rw [hvo, if_neg (show ¬ n.op = 31 by omega), if_neg (show ¬ (n.op = 26 ∨ n.op = 27 ∨ n.op = 28 ∨ n.op = 29 ∨ n.op = 30) by omega), if_neg h22, if_neg h3] at hf
          have k6 : ∀ b : Bool, b = (decide (a = 2) && decide (c = 1)) → r7_nodeSort.p6 (fun v1 _ => v1 = .int .i64 (finS l n [a, c])) (.bool b) s := by
            intro b hb
            refine r7_nodeSort.p6_s fun _ => rf_sortIf ?_
            show _ = _
            rw [hf, ← hb]; cases b <;> rfl
          refine rd1 ?_
          rw [bin_eql, bo_some, br_bool]
          split
          · rename_i h
            refine rd2 ?_
            rw [bin_eql, bo_some]
            exact k6 _ (by rw [h]; rfl)
          · rename_i h
            exact k6 _ (by simp at h; simp [h])
        · rename_i h23
          have h23 : n.op ≠ 23 := by simpa using h23
          rw [bin_eql, bo_some, br_bool]
          split
          · rename_i h24
            have h24 : n.op = 24 := by simpa using h24
            have hf := finS_of (l := l) (k := k) (by omega) hv
            have hl : k.length = 1 := by
              have := ar_len (m := 1) har (by rw [h24]; decide) (by decide)
              omega
            obtain ⟨a, rfl⟩ := len1 hl
            have hvo : validOperandsS n.op [a] = decide (a = 2) := by
              rw [vo_fix har (by omega) (by omega) h22]
              have : operandSortsS n.op = [2] := by rw [h24]; decide
              rw [this]; simp [matchS]
            rw [hvo, if_neg (show ¬ n.op = 31 by omega), if_neg (show ¬ (n.op = 26 ∨ n.op = 27 ∨ n.op = 28 ∨ n.op = 29 ∨ n.op = 30) by omega), if_neg h22, if_neg h3] at hf
            refine rd1 ?_
            rw [bin_eql, bo_some]
            refine rf_sortIf ?_
            show _ = _
            rw [hf]; cases decide (a = 2) <;> rfl
          · rename_i h24
            have h24 : n.op ≠ 24 := by simpa using h24
            rw [bin_eql, bo_some, br_bool]
            split
            · rename_i h25'
              have h25' : n.op = 25 := by simpa using h25'
              have hl : k.length = 1 := by
                have := ar_len (m := 1) har (by rw [h25']; decide) (by decide)
                omega
              obtain ⟨a, rfl⟩ := len1 hl
              have hvo : validOperandsS n.op [a] = decide (a = 3) := by
                rw [vo_fix har (by omega) (by omega) h22]
                have : operandSortsS n.op = [3] := by rw [h25']; decide
                rw [this]; simp [matchS]
              have hf : finS l n [a] = if decide (a = 3) = false ∨ validImmS l n = false then 0 else if n.imm = 0 then 2 else 1 := by
                unfold finS
                rw [hvo, if_neg (show ¬ n.op = 31 by omega), if_neg (show ¬ (n.op = 26 ∨ n.op = 27 ∨ n.op = 28 ∨ n.op = 29 ∨ n.op = 30) by omega), if_neg h22, if_neg h3, if_pos h25']
              have k7 : ∀ b : Bool, (b = true ↔ (decide (a = 3) = false ∨ validImmS l n = false)) → r7_nodeSort.p7 (fun v1 _ => v1 = .int .i64 (finS l n [a])) (.ptr 0 0 0 3) (.bool b) s := by
                intro b hb
                refine r7_nodeSort.p7_s fun _ => ?_
                rw [br_bool]
                split
                · rename_i h; show _ = _; rw [hf, if_pos (hb.1 h)]
                · rename_i h
                  rw [if_neg fun hc => h (hb.2 hc)] at hf
                  refine fld hs (Nat.le_refl _) (by decide) rfl ?_
                  rw [bin_eql, bo_some]
                  refine rf_sortIf ?_
                  by_cases h0 : n.imm = 0
                  · rw [decide_eq_true h0, if_pos rfl, bin_add (by decide) (by decide), bo_some]
                    show _ = _; rw [hf, if_pos h0]; rfl
                  · rw [decide_eq_false h0, if_neg (by simp), bin_add (by decide) (by decide), bo_some]
                    show _ = _; rw [hf, if_neg h0]; rfl
              refine rd1 ?_
              rw [bin_neq, bo_some, br_bool]
              split
              · rename_i h
                exact k7 true (by simp at h; simp [h])
              · rename_i h
                have ha : a = 3 := by simpa using h
                subst ha
                obtain ⟨⟨q1, q2, q3, q4⟩, q5, q6, q7⟩ := h25 h25' rfl
                refine fld hs (Nat.le_refl _) (by decide) rfl ?_
                refine fld hs (Nat.le_refl _) (by decide) rfl ?_
                refine get_int (i := 0) q1 ?_
                rw [vIaddr_nodesi q2 q3]
                simp only [bo_some, vFaddr_lptr, List.drop_succ_cons, List.drop_zero, load_lptr', vLen_eS]
                generalize hL : (l.getD (n.kids.getD 0 0).toNat default).kids.length = L at q4 q5 q6 q7
                have hq : (L : Int).tdiv 2 = ((L / 2 : Nat) : Int) := rfl
                rw [bin_quo (by decide) (by rw [hq]; omega) (by rw [hq]; omega), bo_some, bin_geq, bo_some, hq]
                refine k7 _ ?_
                have hlv : lv L = L / 2 := by unfold lv; omega
                have hvi : validImmS l n = (decide (0 ≤ n.imm) && decide (n.imm ≤ (lv L : Int) - 1)) := by
                  unfold validImmS
                  rw [if_neg (by omega), if_neg (by omega), if_neg (by omega), if_neg h3, if_neg (by omega), if_neg (by omega), if_neg (by omega), if_pos h25', hL]
                have hv0 : 0 ≤ n.imm := by
                  unfold validImmR maxImmS at hv
                  rw [h25'] at hv
                  simp at hv
                  exact hv.1
                rw [hvi, hlv, decide_eq_true hv0]
                simp
                omega
            · rename_i h25'
              have h25' : n.op ≠ 25 := by simpa using h25'
              rw [bin_eql, bo_some, br_bool, bin_eql, bo_some]
              split
              · rename_i h; exact rf_ns_p8 hb hs har hv ⟨h3, h26, h22, h23, h24, h25'⟩ _ (by simp at h; simp [h])
              · rename_i h; exact rf_ns_p8 hb hs har hv ⟨h3, h26, h22, h23, h24, h25'⟩ _ (by simp at h; simp [h])

theorem r7_nodeSort_pu {l : List Node} {n : Node} {k : List Int} (hb : k.length < 1073741824) (hkl : k.length = n.kids.length) (h25 : n.op = 25 → k.getD 0 0 = 3 → LoopOk l n) (hk3 : ∀ x ∈ k, x = 1 ∨ x = 2 ∨ x = 3) :
    Pu Pg F.r7_nodeSort [eNodes l, .agg (eN n), eInts k] (.int .i64 (finS l n k)) := by
  refine Pu.fl r7_nodeSort_k rfl (r7_nodeSort_c (r7_nodeSort.p0_s fun hw => ?_))
  refine is_nil.box rfl fun s h => ?_
  have hs : s.h.get 0 = some (.row (eN n) 0 0) := h.get 0
  show bo (vFaddr 0 (.ptr 0 0 0 3)) _
  refine fld hs (Nat.le_refl _) (by decide) rfl ?_
  refine (r7_Arity_pu n.op).c (.cons (.int _ _) .nil) ?_
  simp only [vExtract, List.getElem?_cons_zero, List.getElem?_cons_succ, bo_some, un_not]
  have h0 : ∀ x, validImmR n.op n.imm = false → n.op ≠ 25 → finS l n x = 0 := by
    intro x hv h
    unfold finS
    rw [vi_eq h, hv, if_pos (Or.inr rfl)]
  have hbad : arBad n.op k → finS l n k = 0 := by
    intro h
    unfold finS
    rw [vo_bad h, if_pos (Or.inl rfl)]
  have k3 : ∀ b : Bool, (b = true ↔ arBad n.op k) → r7_nodeSort.p3 (fun v1 _ => v1 = .int .i64 (finS l n k)) (eNodes l) (eInts k) (.ptr 0 0 0 3) (.bool b) s := by
    intro b hb2
    refine r7_nodeSort.p3_s fun _ => ?_
    rw [br_bool]
    split
    · rename_i hx; exact rf_ns_p4t (hbad (hb2.1 hx))
    · rename_i hx
      have har : ¬ arBad n.op k := fun hc => hx (hb2.2 hc)
      refine fld hs (Nat.le_refl _) (by decide) rfl ?_
      refine fld hs (Nat.le_refl _) (by decide) rfl ?_
      refine (r7_ValidImm_pu _ _).c (.cons (.int _ _) (.cons (.int _ _) .nil)) ?_
      rw [un_not, bo_some]
      cases hv : validImmR n.op n.imm with
      | true => exact rf_ns_p4 hb hs hkl har hv h25 hk3
      | false =>
        refine rf_ns_p4t ?_
        by_cases h : n.op = 25
        · have hl : k.length = 1 := by
            have := ar_len (m := 1) har (by rw [h]; decide) (by decide)
            omega
          obtain ⟨a, rfl⟩ := len1 hl
          have hvo : validOperandsS n.op [a] = decide (a = 3) := by
            rw [vo_fix har (by omega) (by omega) (by omega)]
            have : operandSortsS n.op = [3] := by rw [h]; decide
            rw [this]; simp [matchS]
          unfold finS
          rw [hvo]
          by_cases ha : a = 3
          · subst ha
            obtain ⟨_, _, _, q7⟩ := h25 h rfl
            have hvi : validImmS l n = false := by
              unfold validImmR maxImmS at hv
              rw [h] at hv
              simp at hv
              unfold validImmS
              rw [if_neg (by omega), if_neg (by omega), if_neg (by omega), if_neg (by omega), if_neg (by omega), if_neg (by omega), if_neg (by omega), if_pos h]
              by_cases h0 : 0 ≤ n.imm
              · have := hv h0
                rw [decide_eq_false (show ¬ n.imm ≤ _ by omega), Bool.and_false]
              · rw [decide_eq_false h0, Bool.false_and]
            rw [if_pos (Or.inr hvi)]
          · rw [if_pos (Or.inl (decide_eq_false ha))]
        · exact h0 k hv h
  cases h2 : (arityS n.op).2 with
  | false =>
    simp only [Bool.not_false, gF_bool, if_true]
    refine r7_nodeSort.p1_s fun _ => ?_
    rw [gT_undef]
    refine r7_nodeSort.p2_s fun _ => ?_
    rw [br_bool, if_pos rfl]
    exact k3 true (by simp [arBad, h2])
  | true =>
    simp only [Bool.not_true, gF_bool, Bool.false_eq_true, if_false, bin_geq, bo_some]
    refine r7_nodeSort.p1_s fun _ => ?_
    rw [gT_bool]
    split
    · rename_i h0
      have h0 : 0 ≤ (arityS n.op).1 := by simpa using h0
      refine fld hs (Nat.le_refl _) (by show 0 + 2 + 1 ≤ 3; decide) rfl ?_
      rw [vLen_eS, bo_some, bin_neq, bo_some]
      refine r7_nodeSort.p2_s fun _ => ?_
      rw [br_bool, if_neg (by simp), decide_eq_true h0, vPick_t, bo_some]
      exact k3 _ (by simp [arBad, h2, h0, hkl]; omega)
    · rename_i h0
      have h0 : ¬ 0 ≤ (arityS n.op).1 := by simpa using h0
      refine r7_nodeSort.p2_s fun _ => ?_
      rw [br_bool, if_neg (by simp), decide_eq_false h0, vPick_f, bo_some]
      exact k3 false (by simp [arBad, h2, h0])
end Go.Am.YtmjaimpkjjkliaaGreat
namespace Go.Am.YtmjaimpkjjkliaaGreat
open Go.Proofs
set_option linter.unusedVariables false

theorem finS_22 {op : Int} {k : List Int} (h22 : op = 22) (hv : validOperandsS op k = true) : k.getD 1 0 = 1 ∨ k.getD 1 0 = 2 := by
  have hl : k.length = 3 := by
    have h := vo22 hv h22
    unfold validOperandsS at hv
    split at hv
    · simp at hv
    · rename_i hn
      simp only [not_or, not_and, Decidable.not_not] at hn
      have e : (arityS 22).1 = 3 := by decide
      rw [h22, e] at hn
      have := hn.2 (by decide); omega
  obtain ⟨a, c, d, rfl⟩ := len3 hl
  unfold validOperandsS at hv
  split at hv
  · simp at hv
  · rw [if_neg (show ¬ op = 31 by omega), if_neg (show ¬ op = 30 by omega)] at hv
    split at hv
    · rename_i h; exact .inr h.2
    · have : operandSortsS op = [1, 1, 1] := by rw [h22]; decide
      rw [this] at hv
      simp [matchS] at hv
      exact .inl hv.2.1
theorem finS_range (l : List Node) (n : Node) (k : List Int) : finS l n k = 0 ∨ finS l n k = 1 ∨ finS l n k = 2 ∨ finS l n k = 3 := by
  unfold finS
  split
  · exact .inl rfl
  · rename_i hv
    have hvo : validOperandsS n.op k = true := by
      cases h : validOperandsS n.op k with
      | true => rfl
      | false => exact absurd (.inl h) hv
    split
    · exact .inr (.inr (.inr rfl))
    · split
      · exact .inr (.inr (.inl rfl))
      · split
        · rename_i h; have := finS_22 h hvo; omega
        · split
          · split
            · exact .inr (.inr (.inl rfl))
            · exact .inr (.inl rfl)
          · split
            · split
              · exact .inr (.inr (.inl rfl))
              · exact .inr (.inl rfl)
            · exact .inr (.inl rfl)
theorem finS_3 {l : List Node} {n : Node} {k : List Int} (h : finS l n k = 3) : n.op = 31 ∧ validOperandsS n.op k = true := by
  unfold finS at h
  split at h
  · simp at h
  · rename_i hv
    have hvo : validOperandsS n.op k = true := by
      cases h : validOperandsS n.op k with
      | true => rfl
      | false => exact absurd (.inl h) hv
    split at h
    · rename_i h31; exact ⟨h31, hvo⟩
    · split at h
      · simp at h
      · split at h
        · rename_i h22; have := finS_22 h22 hvo; omega
        · split at h
          · split at h <;> simp at h
          · split at h
            · split at h <;> simp at h
            · simp at h
theorem sortN_range (l : List Node) (j : Nat) : sortN l j = 0 ∨ sortN l j = 1 ∨ sortN l j = 2 ∨ sortN l j = 3 := by
  unfold sortN sortAt
  split
  · exact .inl rfl
  · exact finS_range _ _ _
theorem sortN_loop {l : List Node} {j : Nat} (h : sortN l j = 3) : (l.getD j default).kids.length % 2 = 1 ∧ 3 ≤ (l.getD j default).kids.length ∧ lv (l.getD j default).kids.length ≤ 16 := by
  unfold sortN sortAt at h
  split at h
  · simp at h
  · rename_i s hs
    obtain ⟨h31, hv⟩ := finS_3 h
    have hl := kidS_len hs
    unfold validOperandsS at hv
    split at hv
    · simp at hv
    · try rw [if_pos h31] at hv
      simp only [Bool.and_eq_true, decide_eq_true_eq] at hv
      rw [hl] at hv
      omega
theorem kidS_vals {i : Nat} {known : List Int} : ∀ {ks s : List Int}, kidS i known ks = some s → ∀ x ∈ s, ∃ k ∈ ks, 0 ≤ k ∧ k < i ∧ x = known.getD k.toNat 0 ∧ x ≠ 0 := by
  intro ks
  induction ks with
  | nil => intro s h x hx; simp [kidS] at h; subst h; simp at hx
  | cons k ks ih =>
    intro s h x hx
    unfold kidS at h
    split at h
    · simp at h
    · rename_i hn
      cases hk : kidS i known ks with
      | none => simp [hk] at h
      | some t =>
        simp [hk] at h; subst h
        rcases List.mem_cons.1 hx with rfl | hm
        · exact ⟨k, List.mem_cons_self, by omega, by omega, by simp [List.getD], by simp only [not_or] at hn; simpa [List.getD] using hn.2.2⟩
        · obtain ⟨k', h1, h2⟩ := ih hk x hm
          exact ⟨k', List.mem_cons_of_mem _ h1, h2⟩
theorem kidS_hd {i : Nat} {known : List Int} {ks s : List Int} (h : kidS i known ks = some s) (h0 : 0 < ks.length) : 0 ≤ ks.getD 0 0 ∧ ks.getD 0 0 < i ∧ s.getD 0 0 = known.getD (ks.getD 0 0).toNat 0 := by
  cases ks with
  | nil => simp at h0
  | cons k ks =>
    unfold kidS at h
    split at h
    · simp at h
    · rename_i hn
      cases hk : kidS i known ks with
      | none => simp [hk] at h
      | some t => simp [hk] at h; subst h; refine ⟨?_, ?_, ?_⟩ <;> simp [List.getD] <;> omega
theorem loop_ok {l : List Node} {i : Nat} (hi : i < l.length) (hlen : ∀ k, (l.getD k default).kids.length < 1073741824) {s : List Int} (h : kidS i (sortsS l i) (l.getD i default).kids = some s) :
    (l.getD i default).op = 25 → s.getD 0 0 = 3 → LoopOk l (l.getD i default) := by
  intro _ h3
  have h0 : 0 < (l.getD i default).kids.length := by
    rw [← kidS_len h]
    rcases Nat.eq_zero_or_pos s.length with hc | hc
    · have : s = [] := by simpa using hc
      subst this; simp at h3
    · exact hc
  obtain ⟨g1, g2, g3⟩ := kidS_hd h h0
  rw [g3, sortsS_get (by omega)] at h3
  obtain ⟨p1, p2, p3⟩ := sortN_loop h3
  exact ⟨⟨h0, g1, by omega, hlen _⟩, p1, p2, p3⟩

theorem rf_so_p2 {l : List Node} {i : Nat} (hi : i < l.length) (hb : l.length < 1073741824) {n : Node} (hn : l.getD i default = n) (hkb : n.kids.length < 1073741824) {R : V → S → Prop} {v : V} :
    ∀ m j, n.kids.length - j = m → j ≤ n.kids.length → ∀ (a : List Int) (w : V) (s : S), a.length = j →
      (match kidS i (sortsS l i) n.kids with | none => kidS i (sortsS l i) (n.kids.drop j) = none | some t => kidS i (sortsS l i) (n.kids.drop j) = some (t.drop j) ∧ a = t.take j) →
      Ls s 1 w (a.map fun n => V.int .i64 n) a.length → Ls s 1 v ((sortsS l i).map fun n => V.int .i64 n) i → (∀ id, idOf v id → ¬ idOf w id) →
      (∀ w' s', kidS i (sortsS l i) n.kids = none → WF s' → Ls s' 1 v ((sortsS l i).map fun n => V.int .i64 n) i → r7_Sorts.p3 R (eNodes l) v (.int .i64 (i : Int)) w' (.bool false) s') →
      (∀ w' s' t, kidS i (sortsS l i) n.kids = some t → WF s' → Ls s' 1 v ((sortsS l i).map fun n => V.int .i64 n) i → Ls s' 1 w' (t.map fun n => V.int .i64 n) t.length → r7_Sorts.p3 R (eNodes l) v (.int .i64 (i : Int)) w' (.bool true) s') →
      r7_Sorts.p2 R (eNodes l) v (.int .i64 (i : Int)) w (.bool true) (.int .i64 (j : Int)) s := by
  intro m
  induction m with
  | zero =>
    intro j hm hj a w s ha hinv hW hL hd hF hT
    obtain rfl : j = n.kids.length := by omega
    refine r7_Sorts.p2_s fun hw => ?_
    rw [vIaddr_nodes hi, hn]
    simp only [bo_some, vFaddr_lptr, List.drop_succ_cons, List.drop_zero, load_lptr', vLen_eS, bin_lss, br_bool, decide_eq_true_eq, Int.ofNat_lt, Nat.lt_irrefl, if_false]
    have hks : kidS i (sortsS l i) n.kids = some a := by
      cases h : kidS i (sortsS l i) n.kids with
      | none => rw [h] at hinv; simp [kidS] at hinv
      | some t =>
        rw [h] at hinv
        simp only [List.drop_length] at hinv
        rw [hinv.2, List.take_of_length_le (by rw [kidS_len h]; exact Nat.le_refl _)]
    exact hT w s a hks hw hL hW
  | succ m ih =>
    intro j hm hj a w s ha hinv hW hL hd hF hT
    have h1 : j < n.kids.length := by omega
    refine r7_Sorts.p2_s fun hw => ?_
    rw [vIaddr_nodes hi, hn]
    simp only [bo_some, vFaddr_lptr, List.drop_succ_cons, List.drop_zero, load_lptr', vLen_eS, bin_lss, br_bool, decide_eq_true_eq, Int.ofNat_lt]
    rw [if_pos h1]
    refine get_int h1 ?_
    simp only [bin_lss, bin_geq, bo_some, br_bool, decide_eq_true_eq]
    have hdr := drop_getD n.kids j h1
    rw [show n.kids.getD j default = n.kids.getD j 0 from rfl] at hdr
    generalize hkj : n.kids.getD j 0 = kj at hdr ⊢
    have hnone : (kj < 0 ∨ (i : Int) ≤ kj ∨ (sortsS l i).getD kj.toNat 0 = 0) → kidS i (sortsS l i) n.kids = none := by
      intro hc
      cases h : kidS i (sortsS l i) n.kids with
      | none => rfl
      | some t =>
        rw [h] at hinv
        have := hinv.1
        rw [hdr] at this
        unfold kidS at this
        rw [if_pos hc] at this
        simp at this
    have hp6 : ∀ b : Bool, (b = true ↔ (kj < 0 ∨ (i : Int) ≤ kj ∨ (sortsS l i).getD kj.toNat 0 = 0)) → r7_Sorts.p6 R (eNodes l) v (.int .i64 (i : Int)) w (.bool true) (.int .i64 (j : Int)) (.int .i64 kj) (.bool b) s := by
      intro b hb2
      refine r7_Sorts.p6_s fun _ => ?_
      cases b with
      | true =>
        rw [br_bool, if_pos rfl]
        exact hF w s (hnone (hb2.1 rfl)) hw hL
      | false =>
        have hok : ¬ (kj < 0 ∨ (i : Int) ≤ kj ∨ (sortsS l i).getD kj.toNat 0 = 0) := fun h => by simpa using hb2.2 h
        rw [br_bool, if_neg (by simp)]
        obtain ⟨y, rfl⟩ := Int.eq_ofNat_of_zero_le (show 0 ≤ kj by omega)
        have hyi : y < i := by omega
        refine get_one hL hyi (c := .int .i64 ((sortsS l i).getD y 0)) (by simp [List.getD, sortsS_len, hyi]) ?_
        refine app_one (new := [.int .i64 ((sortsS l i).getD y 0)]) hW hw rfl rfl rfl (by decide) (by omega) fun w' s' hw' hW' hK hid => ?_
        rw [bin_inc (by omega), bo_some]
        refine ih (j + 1) (by omega) (by omega) (a ++ [(sortsS l i).getD y 0]) w' s' (by simp [ha]) ?_ ?_ (hL.keep hK fun id hi hc => hd id hi hc) ?_ hF hT
        · cases h : kidS i (sortsS l i) n.kids with
          | none =>
            rw [h] at hinv
            simp only at hinv ⊢
            rw [hdr] at hinv
            unfold kidS at hinv
            rw [if_neg hok] at hinv
            cases h2 : kidS i (sortsS l i) (n.kids.drop (j + 1)) with
            | none => rfl
            | some t => rw [h2] at hinv; simp at hinv
          | some t =>
            rw [h] at hinv
            simp only at hinv ⊢
            obtain ⟨hi1, hi2⟩ := hinv
            rw [hdr] at hi1
            unfold kidS at hi1
            rw [if_neg hok] at hi1
            have hlt : j < t.length := by rw [kidS_len h]; exact h1
            rw [drop_getD t j hlt] at hi1
            cases h2 : kidS i (sortsS l i) (n.kids.drop (j + 1)) with
            | none => rw [h2] at hi1; simp at hi1
            | some u =>
              rw [h2] at hi1
              simp only [Option.map_some, Option.some.injEq, List.cons.injEq] at hi1
              refine ⟨by rw [hi1.2], ?_⟩
              rw [take_getD t j hlt, hi2, ← hi1.1]
              rfl
        · rw [map_int_append]
          simpa using hW'
        · intro id hv hc
          rcases hid id hc with h | h
          · exact hd id hv h
          · rcases hL.2 with ⟨rfl, _⟩ | ⟨id0, ep, wr, rfl, hg, _⟩
            · exact hv
            · cases hv
              have := hw.lt hg; omega
    split
    · rename_i hneg
      refine r7_Sorts.p5_s fun _ => ?_
      rw [br_bool, if_pos rfl]
      exact hp6 true (by simp [hneg])
    · rename_i hneg
      refine r7_Sorts.p5_s fun _ => ?_
      rw [br_bool]
      split
      · rename_i hge
        exact hp6 true (by simp at hge; simp [hge])
      · rename_i hge
        have hge : ¬ (i : Int) ≤ kj := by simpa using hge
        obtain ⟨y, rfl⟩ := Int.eq_ofNat_of_zero_le (show 0 ≤ kj by omega)
        have hyi : y < i := by omega
        refine get_one hL hyi (c := .int .i64 ((sortsS l i).getD y 0)) (by simp [List.getD, sortsS_len, hyi]) ?_
        rw [bin_eql, bo_some]
        exact hp6 _ (by simp only [decide_eq_true_eq]; constructor <;> intro h <;> first | exact .inr (.inr h) | (rcases h with h | h | h <;> first | (exfalso; omega) | exact h))

theorem rf_so_p1 {l : List Node} (hb : l.length < 1073741824) (hlen : ∀ k, (l.getD k default).kids.length < 1073741824) {R : V → S → Prop} (hR : ∀ v s, Ls s 1 v ((sortsS l l.length).map fun n => V.int .i64 n) l.length → R v s) :
    ∀ m i, l.length - i = m → i ≤ l.length → ∀ v s, Ls s 1 v ((sortsS l i).map fun n => V.int .i64 n) i → r7_Sorts.p1 R (eNodes l) v (.int .i64 (i : Int)) s := by
  intro m
  induction m with
  | zero =>
    intro i hm hi v s hL
    obtain rfl : i = l.length := by omega
    refine r7_Sorts.p1_s fun hw => ?_
    simp only [vLen_eS, bin_lss, bo_some, br_bool, decide_eq_true_eq, Int.ofNat_lt, Nat.lt_irrefl, if_false]
    exact hR v s hL
  | succ m ih =>
    intro i hm hi v s hL
    have h1 : i < l.length := by omega
    refine r7_Sorts.p1_s fun hw => ?_
    simp only [vLen_eS, bin_lss, bo_some, br_bool, decide_eq_true_eq, Int.ofNat_lt]
    rw [if_pos h1]
    have hnext : ∀ v' s', Ls s' 1 v' ((sortsS l i).map (fun n => V.int .i64 n) ++ [.int .i64 (sortAt l i (sortsS l i))]) (i + 1) → r7_Sorts.p4 R (eNodes l) v' (.int .i64 (i : Int)) s' := by
      intro v' s' hL'
      refine r7_Sorts.p4_s fun _ => ?_
      rw [bin_inc (by omega), bo_some]
      refine ih (i + 1) (by omega) (by omega) v' s' ?_
      rw [← map_int_append] at hL'
      exact hL'
    refine rf_so_p2 (n := l.getD i default) h1 hb rfl (hlen i) _ 0 rfl (Nat.zero_le _) [] .nils s rfl ?_ .nil hL (fun _ _ h => h) (fun w' s' hk hw' hL' => ?_) (fun w' s' t hk hw' hL' hW' => ?_)
    · cases h : kidS i (sortsS l i) (l.getD i default).kids with
      | none => simpa using h
      | some t => simpa using h
    · refine r7_Sorts.p3_s fun _ => ?_
      rw [br_bool, if_neg (by simp)]
      refine app_one (new := [.int .i64 0]) hL' hw' rfl rfl rfl (by decide) (by omega) fun v'' s'' hw'' hL'' _ _ => ?_
      refine hnext v'' s'' ?_
      have : sortAt l i (sortsS l i) = 0 := by unfold sortAt; rw [hk]
      rw [this]; exact hL''
    · refine r7_Sorts.p3_s fun _ => ?_
      rw [br_bool, if_pos rfl, vIaddr_nodes h1, bo_some, load_lptrk (by simp), bo_some]
      have hns := r7_nodeSort_pu (l := l) (n := l.getD i default) (k := t) (by rw [kidS_len hk]; exact hlen i) (kidS_len hk) (loop_ok h1 hlen hk) (fun x hx => by
        obtain ⟨k, _, g1, g2, g3, g4⟩ := kidS_vals hk x hx
        rw [sortsS_get (by omega)] at g3
        have := sortN_range l k.toNat
        rw [← g3] at this
        omega)
      refine hns.s rfl (.cons (cv_nodes l).fz (.cons (Cv.agg (.refl (eN_cv _))).fz (.cons hW'.ints .nil))) ?_
      refine app_one (new := [.int .i64 (finS l (l.getD i default) t)]) hL' hw' rfl rfl rfl (by decide) (by omega) fun v'' s'' hw'' hL'' _ _ => ?_
      refine hnext v'' s'' ?_
      have : sortAt l i (sortsS l i) = finS l (l.getD i default) t := by unfold sortAt; rw [hk]
      rw [this]; exact hL''
theorem r7_Sorts_pu {l : List Node} (hb : l.length < 1073741824) (hlen : ∀ k, (l.getD k default).kids.length < 1073741824) : Pu Pg F.r7_Sorts [eNodes l] (eInts (sortsS l l.length)) := by
  refine Pu.fz r7_Sorts_k (r7_Sorts_c (r7_Sorts.p0_s fun hw => ?_))
  exact rf_so_p1 hb hlen (fun v s hL => hL.ints) l.length 0 rfl (Nat.zero_le _) _ _ .nil
end Go.Am.YtmjaimpkjjkliaaGreat
namespace Go.Am.YtmjaimpkjjkliaaGreat
open Go.Proofs
set_option linter.unusedVariables false

theorem r7_Sort_pu {l : List Node} {i : Int} (hi : rng i) (hb : l.length < 1073741824) (hlen : ∀ k, (l.getD k default).kids.length < 1073741824) : Pu Pg F.r7_Sort [eNodes l, .int .i64 i] (.int .i64 (sortS l i)) := by
  refine Pu.fl r7_Sort_k rfl (r7_Sort_c (r7_Sort.p0_s fun hw => ?_))
  have hp1 : ∀ b : Bool, (b = true ↔ (i < 0 ∨ (l.length : Int) ≤ i)) → r7_Sort.p1 (fun v1 _ => v1 = .int .i64 (sortS l i)) (eNodes l) (.int .i64 i) (.bool b) ⟨.nil, 0⟩ := by
    intro b hb2
    refine r7_Sort.p1_s fun _ => ?_
    cases b with
    | true =>
      simp only [br_bool, if_true]
      unfold sortS; rw [if_pos (hb2.1 rfl)]
    | false =>
      have hn : ¬ (i < 0 ∨ (l.length : Int) ≤ i) := fun h => by simpa using hb2.2 h
      simp only [br_bool, Bool.false_eq_true, if_false]
      obtain ⟨j, rfl⟩ := Int.eq_ofNat_of_zero_le (show 0 ≤ i by omega)
      have hj : j < l.length := by omega
      show bo (bin .add (.int .i64 (j : Int)) (.int .i64 1)) _
      rw [bin_inc (by omega), bo_some, vSlice_take (by omega) hj, bo_some]
      refine (r7_Sorts_pu (l := l.take (j + 1)) (by simp; omega) fun k => ?_).c (.cons (cv_take eN_cv l (j + 1) hj) .nil) ?_
      · by_cases hk : k < j + 1
        · simp only [List.getD_eq_getElem?_getD, List.getElem?_take, hk, if_true]
          have := hlen k
          simpa [List.getD_eq_getElem?_getD] using this
        · simp [List.getD_eq_getElem?_getD, List.getElem?_take, hk]; decide
      · have hlt : (l.take (j + 1)).length = j + 1 := by simp; omega
        rw [hlt, sortsS_take hj (j + 1) (Nat.le_refl _)]
        refine get_int (i := j) (by rw [sortsS_len]; omega) ?_
        show V.int .i64 _ = _
        unfold sortS
        rw [if_neg hn]
        show V.int .i64 _ = V.int .i64 ((sortsS l l.length).getD j 0)
        rw [sortsS_pre (m := j + 1) (n := l.length) hj j (by omega)]
  simp only [bin_lss, bo_some, br_bool, decide_eq_true_eq]
  split
  · rename_i h; exact hp1 true (by simp [h])
  · rename_i h
    simp only [vLen_eS, bo_some, bin_geq]
    exact hp1 _ (by simp [h])

theorem rf_de_p2 {R : V → S → Prop} {n : Nat} {b : List Bool} (hbn : b.length = n + 1) (hb : b.length < 1073741824) {v : V} (hR : ∀ w s, Ls s 1 w ((listed b (n + 1)).map fun n => V.int .i64 n) (listed b (n + 1)).length → R w s) :
    ∀ m j, n + 1 - j = m → j ≤ n + 1 → ∀ (w : V) (s : S), Ls s 1 v (b.map V.bool) b.length → Ls s 1 w ((listed b j).map fun n => V.int .i64 n) (listed b j).length → (∀ i, idOf v i → ¬ idOf w i) →
      r7_Dependencies.p2 R (.int .i64 (n : Int)) v w (.int .i64 (j : Int)) s := by
  intro m
  induction m with
  | zero =>
    intro j hm hj w s hL hW hd
    obtain rfl : j = n + 1 := by omega
    refine r7_Dependencies.p2_s fun hw => ?_
    simp only [bin_leq, bo_some, br_bool, decide_eq_true_eq]
    rw [if_neg (by omega)]
    exact hR w s hW
  | succ m ih =>
    intro j hm hj w s hL hW hd
    have h1 : j < b.length := by omega
    refine r7_Dependencies.p2_s fun hw => ?_
    simp only [bin_leq, bo_some, br_bool, decide_eq_true_eq]
    rw [if_pos (by omega)]
    refine get_one hL h1 (c := .bool (b.getD j false)) (by simp [List.getD, h1]) ?_
    have hlisted : listed b (j + 1) = if b.getD j false then listed b j ++ [(j : Int)] else listed b j := by
      unfold listed
      rw [List.range_succ, List.filter_append, List.map_append, List.filter_cons, List.filter_nil]
      generalize b.getD j false = c
      cases c <;> simp
    have hll : (listed b j).length ≤ j := by
      unfold listed
      rw [List.length_map]
      exact Nat.le_trans (List.length_filter_le _ _) (by simp)
    rw [br_bool]
    cases hbj : b.getD j false with
    | true =>
      rw [hbj] at hlisted
      simp only [if_true] at hlisted ⊢
      refine app_one (new := [.int .i64 (j : Int)]) hW hw rfl rfl rfl (by decide) (by omega) fun w' s' hw' hW' hK hid => ?_
      refine r7_Dependencies.p3_s fun _ => ?_
      rw [bin_inc (by omega), bo_some]
      refine ih (j + 1) (by omega) (by omega) w' s' (hL.keep hK fun i hi hc => hd i hi hc) ?_ fun i hi hc => ?_
      · rw [hlisted, map_int_append]; simpa using hW'
      · rcases hid i hc with h | h
        · exact hd i hi h
        · rcases hL.2 with ⟨rfl, _⟩ | ⟨id, ep, wr, rfl, hg, _⟩
          · exact hi
          · cases hi
            have := hw.lt hg; omega
    | false =>
      rw [hbj] at hlisted
      simp only [Bool.false_eq_true, if_false] at hlisted ⊢
      refine r7_Dependencies.p3_s fun _ => ?_
      rw [bin_inc (by omega), bo_some]
      exact ih (j + 1) (by omega) (by omega) w s hL (by rw [hlisted]; exact hW) hd

theorem markKids_at (ks : List Int) (b : List Bool) (j : Nat) (hj : j < b.length) (h : b.getD j false = true) : (markKids b ks).getD j false = true := by
  induction ks generalizing b with
  | nil => exact h
  | cons k ks ih =>
    refine ih _ (by simpa using hj) ?_
    by_cases e : k.toNat = j
    · subst e; simp [List.getD, hj]
    · simpa [List.getD, List.getElem?_set, e] using h

theorem rf_de_p4 {l : List Node} {R : V → S → Prop} {n i : Nat} {x1 v : V} (hi : i < l.length) (hin : i < n) {ks : List Int} (hks : (l.getD i default).kids = ks) (hb : ks.length < 1073741824) (hkr : ∀ x ∈ ks, 0 ≤ x ∧ x < (n : Int)) (hn : n < 1073741824) :
    ∀ m j, ks.length - j = m → j ≤ ks.length → ∀ (b : List Bool) (s : S), b.length = n → b.getD i false = true → Ls s 1 v (b.map V.bool) n → WF s →
      (∀ s', WF s' → Ls s' 1 v ((markKids b (ks.drop j)).map V.bool) n → r7_Dependencies.p1 R (eNodes l) x1 v (.int .i64 ((i : Int) - 1)) s') →
      r7_Dependencies.p4 R (eNodes l) x1 v (.int .i64 (i : Int)) (.int .i64 (j : Int)) s := by
  intro m
  induction m with
  | zero =>
    intro j hm hj b s hbl hbi hL hw hk
    obtain rfl : j = ks.length := by omega
    refine r7_Dependencies.p4_s fun hw => ?_
    rw [vIaddr_nodes hi, hks]
    simp only [bo_some, vFaddr_lptr, List.drop_succ_cons, List.drop_zero, load_lptr', vLen_eS, bin_lss, br_bool, decide_eq_true_eq, Int.ofNat_lt, Nat.lt_irrefl, if_false]
    refine r7_Dependencies.p5_s fun _ => ?_
    rw [br_bool, if_neg (by simp), bin_sub (by omega) (by omega), bo_some]
    exact hk s hw (by simpa [markKids] using hL)
  | succ m ih =>
    intro j hm hj b s hbl hbi hL hw hk
    have h1 : j < ks.length := by omega
    refine r7_Dependencies.p4_s fun hw => ?_
    rw [vIaddr_nodes hi, hks]
    simp only [bo_some, vFaddr_lptr, List.drop_succ_cons, List.drop_zero, load_lptr', vLen_eS, bin_lss, br_bool, decide_eq_true_eq, Int.ofNat_lt]
    rw [if_pos h1]
    refine get_one hL hin (c := .bool true) ?_ ?_
    · have : i < b.length := by omega
      simp [List.getD, this] at hbi
      simp [this, hbi]
    refine r7_Dependencies.p5_s fun _ => ?_
    rw [br_bool, if_pos rfl, vIaddr_nodes hi, hks]
    simp only [bo_some, vFaddr_lptr, List.drop_succ_cons, List.drop_zero, load_lptr']
    refine get_int h1 ?_
    have hd := drop_getD ks j h1
    have hmem : ks.getD j 0 ∈ ks := by
      have : ks.getD j 0 = ks[j] := by simp [List.getD, h1]
      rw [this]; exact List.getElem_mem _
    obtain ⟨h0, hlt⟩ := hkr _ hmem
    rw [show ks.getD j default = ks.getD j 0 from rfl] at hd
    generalize ks.getD j 0 = x at hd h0 hlt ⊢
    obtain ⟨y, rfl⟩ := Int.eq_ofNat_of_zero_le h0
    refine put_one (x := .bool true) hL hw (by omega) rfl rfl rfl fun s' hw' hL' _ => ?_
    show bo (bin .add (.int .i64 (j : Int)) (.int .i64 1)) _
    rw [bin_inc (by omega), bo_some]
    rw [map_set_bool] at hL'
    have hbi' : (b.set y true).getD i false = true := by
      have hil : i < b.length := by omega
      by_cases e : y = i
      · subst e; simp [List.getD, hil]
      · simpa [List.getD, List.getElem?_set, e] using hbi
    refine ih (j + 1) (by omega) (by omega) _ s' (by simpa using hbl) hbi' hL' hw' fun s'' hw'' hL'' => hk s'' hw'' ?_
    rw [hd]
    exact hL''

theorem rf_de_loop {l : List Node} {n : Nat} (hn : n + 1 ≤ l.length) (hb : l.length < 1073741824) (hlen : ∀ k, (l.getD k default).kids.length < 1073741824) {R : V → S → Prop} {v : V} :
    ∀ k, k ≤ n + 1 → ∀ (b : List Bool) (s : S), MOk l (n + 1) b → Ls s 1 v (b.map V.bool) (n + 1) →
      (∀ w s, Ls s 1 w ((listed (marks l k b) (n + 1)).map fun n => V.int .i64 n) (listed (marks l k b) (n + 1)).length → R w s) →
      r7_Dependencies.p1 R (eNodes l) (.int .i64 (n : Int)) v (.int .i64 ((k : Int) - 1)) s := by
  intro k
  induction k with
  | zero =>
    intro hk b s hm hL hR
    refine r7_Dependencies.p1_s fun hw => ?_
    simp only [bin_geq, bo_some, br_bool, decide_eq_true_eq]
    rw [if_neg (by omega)]
    have hbl := hm.1
    rw [← hbl] at hL
    exact rf_de_p2 hbl (by omega) (fun w s h => hR w s (by simpa [marks] using h)) (n + 1) 0 rfl (Nat.zero_le _) .nils s hL (by simpa [listed] using Ls.nil) fun _ _ h => h
  | succ k ih =>
    intro hk b s hm hL hR
    have hcast : (((k + 1 : Nat) : Int) - 1) = (k : Int) := by omega
    rw [hcast]
    have hbl := hm.1
    refine r7_Dependencies.p1_s fun hw => ?_
    simp only [bin_geq, bo_some, br_bool, decide_eq_true_eq]
    rw [if_pos (by omega)]
    have hkb : k < b.length := by omega
    cases hbk : b.getD k false with
    | true =>
      have hs := hm.2 k hbk
      refine rf_de_p4 (n := n + 1) (by omega) (by omega) rfl (hlen k) (fun x hx => ?_) (by omega) _ 0 rfl (Nat.zero_le _) b s hbl hbk hL hw fun s' hw' hL' => ?_
      · have := sortN_kids hs x hx; omega
      · rw [List.drop_zero] at hL'
        exact ih (by omega) _ s' (hm.kids hbk) hL' (by have e : marks l (k + 1) b = marks l k (markKids b (l.getD k default).kids) := by simp only [marks, hbk]; rfl
                                                       rw [e] at hR; exact hR)
    | false =>
      have e : marks l (k + 1) b = marks l k b := by simp only [marks, hbk]; rfl
      rw [e] at hR
      refine r7_Dependencies.p4_s fun _ => ?_
      rw [vIaddr_nodes (show k < l.length by omega)]
      simp only [bo_some, vFaddr_lptr, List.drop_succ_cons, List.drop_zero, load_lptr', vLen_eS, bin_lss, br_bool, decide_eq_true_eq]
      have hp5 : r7_Dependencies.p5 R (eNodes l) (.int .i64 (n : Int)) v (.int .i64 (k : Int)) (.int .i64 0) (.bool false) s := by
        refine r7_Dependencies.p5_s fun _ => ?_
        rw [br_bool, if_neg (by simp), bin_sub (by omega) (by omega), bo_some]
        exact ih (by omega) b s hm hL hR
      split
      · refine get_one hL (i := k) (by omega) (c := .bool false) ?_ hp5
        simp [List.getD, hkb] at hbk
        simp [hkb, hbk]
      · exact hp5

theorem r7_Dependencies_pu {l : List Node} {i : Int} (hi : rng i) (hb : l.length < 1073741824) (hlen : ∀ k, (l.getD k default).kids.length < 1073741824) : Pu Pg F.r7_Dependencies [eNodes l, .int .i64 i] (eInts (depsS l i)) := by
  refine Pu.fz r7_Dependencies_k (r7_Dependencies_c (r7_Dependencies.p0_s fun hw => ?_))
  refine (r7_Sort_pu hi hb hlen).c (.cons (cv_nodes _) (.cons (Cv.int _ _) .nil)) ?_
  simp only [bin_eql, bo_some, br_bool, decide_eq_true_eq]
  split
  · rename_i h
    unfold depsS; rw [if_pos h]
    exact Cv.nilsE.fz
  · rename_i h
    have hr : 0 ≤ i ∧ i < l.length := by
      unfold sortS at h
      split at h
      · exact absurd rfl h
      · omega
    obtain ⟨j, rfl⟩ := Int.eq_ofNat_of_zero_le hr.1
    have hj : j < l.length := by omega
    show bo (bin .add (.int .i64 (j : Int)) (.int .i64 1)) _
    rw [bin_inc (by omega), bo_some]
    refine mk_one hw (Nat.le_refl _) (by decide) (by omega) fun v s1 hw1 hL _ _ => ?_
    refine put_one (i := j) (x := .bool true) hL hw1 (by omega) rfl rfl rfl fun s2 hw2 hL2 _ => ?_
    have hsj : sortN l j ≠ 0 := by rw [← sortS_nat hj]; exact h
    have e0 : List.replicate (j + 1) (V.bool false) = (List.replicate (j + 1) false).map V.bool := by simp
    rw [e0, map_set_bool] at hL2
    have := rf_de_loop (l := l) (n := j) (R := fun v1 s1 => Fz s1.h v1 (eInts (depsS l (j : Int)))) (by omega) hb hlen (j + 1) (Nat.le_refl _) _ s2 ⟨by simp, fun i hi => ?_⟩ hL2 fun w s hW => ?_
    · rw [show (((j + 1 : Nat) : Int) - 1) = (j : Int) by omega] at this
      exact this
    · by_cases hij : i = j
      · subst hij; exact hsj
      · rw [List.getD_eq_getElem?_getD, List.getElem?_set_ne (fun e => hij e.symm)] at hi
        simp [List.getElem?_replicate] at hi
        split at hi <;> simp at hi
    · have hd : depsS l (j : Int) = listed (marks l (j + 1) ((List.replicate (j + 1) false).set j true)) (j + 1) := by
        unfold depsS; rw [if_neg h]; rfl
      rw [hd]
      exact hW.ints
end Go.Am.YtmjaimpkjjkliaaGreat
