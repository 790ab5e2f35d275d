/- Chapter 7, the program: sortOf, Sort, Dependencies. -/
import Derived.Test.YtmjaimpkjjkliaaKa
namespace Go.Am.Ytmjaimpkjjkliaa
open Go.Proofs
set_option linter.unusedVariables false

/-! ### validOperands -/
def validOperandsS (op : Int) (s : List Int) : Bool :=
  if (arityS op).2 = false ∨ (0 ≤ (arityS op).1 ∧ (arityS op).1 ≠ s.length) then false
  else if op = 31 then decide (3 ≤ s.length) && decide (s.length % 2 = 1) && decide (lv s.length ≤ 16) && matchS s (loopSortsS s.length)
  else if op = 30 then decide (1 ≤ s.length) && decide (s.length ≤ 7) && decide (s.getD 0 0 = 2) && (s.drop 1).all (fun x => decide (x = 1))
  else if op = 22 ∧ s.getD 1 0 = 2 then decide (s.getD 0 0 = 1) && decide (s.getD 2 0 = 2)
  else matchS s (operandSortsS op)

theorem ir_vo_p8 {t : List Int} (hb : t.length < 1073741824) {v : V} (hv : v = eInts t ∨ ∃ cs, v = .lit cs t.length ∧ cs = t.flatMap e1 ∧ t ≠ []) {R : V → S → Prop} {s : S} : ∀ n i, t.length - i = n → i ≤ t.length → R (.bool ((t.drop i).all fun x => decide (x = 1))) s →
    ir_validOperands.p8 R v (.int .i64 (t.length : Int)) (.int .i64 (i : Int)) s := by
  have hv' : v = eInts t := by
    rcases hv with h | ⟨cs, h, rfl, hne⟩
    · exact h
    · rw [h]; unfold eInts eS
      cases t with
      | nil => exact absurd rfl hne
      | cons a t => rfl
  subst hv'
  intro n
  induction n with
  | zero =>
    intro i hn hi hR
    obtain rfl : i = t.length := by omega
    refine ir_validOperands.p8_s fun _ => ?_
    simpa using hR
  | succ n ih =>
    intro i hn hi hR
    have h1 : i < t.length := by omega
    rw [drop_getD t i h1, List.all_cons] at hR
    refine ir_validOperands.p8_s fun _ => ?_
    simp only [bo_some, bin_lss, br_bool, decide_eq_true_eq, Int.ofNat_lt]
    rw [if_pos h1]
    refine get_int h1 ?_
    simp only [bo_some, bin_neq, br_bool]
    by_cases hx : t.getD i 0 = 1
    · have hx' : t.getD i default = 1 := hx
      simp only [hx, hx', decide_true, Bool.not_true, Bool.false_eq_true, if_false, Bool.true_and] at hR ⊢
      rw [bin_inc (by omega), bo_some]
      exact ih (i + 1) (by omega) (by omega) hR
    · have hx' : ¬ t.getD i default = 1 := hx
      simp only [hx, hx', decide_false, Bool.not_false, if_true, Bool.false_and] at hR ⊢
      exact hR

theorem vSlice_from {l : List Int} (h : 1 < l.length) : vSlice 1 (eInts l) (some (.int .i64 1)) none = some (.lit ((l.drop 1).flatMap e1) (l.drop 1).length) := by
  unfold eInts eS
  obtain ⟨a, l, rfl⟩ : ∃ a t, l = a :: t := by cases l with | nil => simp at h | cons a t => exact ⟨a, t, rfl⟩
  have hl : 1 ≤ l.length := by simp at h; omega
  simp only [List.length_cons, eL, vSlice, vBounds, natOf_one]
  rw [show (Nat.ble 1 (l.length + 1) && Nat.ble (l.length + 1) (l.length + 1)) = true by simp]
  simp only [cond_true]
  rw [show Nat.beq 1 (l.length + 1) = false by
    cases hb : Nat.beq 1 (l.length + 1) with
    | false => rfl
    | true => have := Nat.eq_of_beq_eq_true hb; omega]
  simp
theorem vSlice_from1 {l : List Int} (h : l.length = 1) : vSlice 1 (eInts l) (some (.int .i64 1)) none = some .emp := by
  obtain ⟨a, rfl⟩ : ∃ a, l = [a] := by
    match l, h with
    | [a], _ => exact ⟨a, rfl⟩
  rfl

theorem ir_vo_box {op : Int} {x1 x2 : V} {s : S} {x : V → Prop} (h : x (.int .i64 op)) (hs : s.h.get 0 = some (.row [.int .i64 op, x1, x2] 0 0)) : bo (loadAt s.h none (.ptr 0 0 0 3)) x := by
  rw [load_ptr hs (Nat.le_refl _) (by decide) rfl, bo_some]; exact h

theorem ir_vo_p9 {s : List Int} (h3 : 3 ≤ s.length) (hb : s.length < 1073741824) {b : Bool} {R : V → S → Prop} {st : S} (hR : R (.bool (b && matchS s (loopSortsS s.length))) st) : ir_validOperands.p9 R (eInts s) (.bool b) st := by
  refine ir_validOperands.p9_s fun _ => ?_
  cases b with
  | false => simpa using hR
  | true =>
    simp only [br_bool, if_true, vLen_eS, bo_some]
    refine (ir_loopSorts_pu h3 hb).c (.cons (.int _ _) .nil) ?_
    refine (ir_match_pu (by simp [loopSortsS]) hb).c (.cons (cv_ints _) (.cons (cv_ints _) .nil)) ?_
    simpa using hR

theorem ir_vo_p6 {op : Int} {s : List Int} {x1 x2 : V} (hb : s.length < 1073741824) (hl : s.length ≤ (operandSortsS op).length) {R : V → S → Prop} {st : S} (hs : st.h.get 0 = some (.row [.int .i64 op, x1, x2] 0 0))
    (hR : R (.bool (matchS s (operandSortsS op))) st) : ir_validOperands.p6 R (eInts s) (.ptr 0 0 0 3) (.bool false) st := by
  refine ir_validOperands.p6_s fun _ => ?_
  simp only [br_bool, Bool.false_eq_true, if_false, vFaddr_ptr, bo_some]
  refine ir_vo_box ?_ hs
  refine (ir_operandSorts_pu op).c (.cons (.int _ _) .nil) ?_
  exact (ir_match_pu hl hb).c (.cons (cv_ints _) (.cons (cv_ints _) .nil)) hR

theorem ir_vo_p7 {s : List Int} (h1 : 1 ≤ s.length) (hb : s.length < 1073741824) {b : Bool} {R : V → S → Prop} {st : S} (hR : R (.bool (!b && (s.drop 1).all fun x => decide (x = 1))) st) : ir_validOperands.p7 R (eInts s) (.bool b) st := by
  refine ir_validOperands.p7_s fun _ => ?_
  cases b with
  | true => simpa using hR
  | false =>
    simp only [br_bool, Bool.false_eq_true, if_false]
    by_cases h2 : s.length = 1
    · rw [vSlice_from1 h2, bo_some]
      have hd : s.drop 1 = [] := List.drop_eq_nil_of_le (by omega)
      rw [hd] at hR
      show bo (some _) _
      rw [bo_some]
      refine ir_vo_p8 (t := []) (by simp) (.inl rfl) 0 0 rfl (Nat.zero_le _) ?_
      simpa using hR
    · rw [vSlice_from (by omega), bo_some]
      show bo (some _) _
      rw [bo_some]
      refine ir_vo_p8 (t := s.drop 1) (by simp; omega) (.inr ⟨_, rfl, rfl, fun h => by rw [List.drop_eq_nil_iff] at h; omega⟩) (s.drop 1).length 0 rfl (Nat.zero_le _) ?_
      simpa using hR

theorem arity_len {op : Int} {s : List Int} (h : ¬ ((arityS op).2 = false ∨ (0 ≤ (arityS op).1 ∧ (arityS op).1 ≠ s.length))) (h1 : op ≠ 31) (h2 : op ≠ 30) : s.length ≤ (operandSortsS op).length := by
  simp only [not_or, not_and, Decidable.not_not] at h
  obtain ⟨ha, hb⟩ := h
  unfold arityS at ha hb
  unfold operandSortsS
  repeat' split at ha
  all_goals (try (simp at ha; done))
  all_goals (repeat' split)
  all_goals (try simp_all)
  all_goals omega

theorem ir_validOperands_pu (n : Node) (s : List Int) (hb : s.length < 1073741824) : Pu Pg F.ir_validOperands [.agg (eN n), eInts s] (.bool (validOperandsS n.op s)) := by
  refine Pu.fl ir_validOperands_k rfl (ir_validOperands_c (ir_validOperands.p0_s fun _ => ?_))
  rw [bn_box]
  refine ⟨rfl, ?_⟩
  have hrow : ((⟨.nil, 0⟩ : S).new (.row (V.agg (eN n)).cells 0 0)).h.get 0 = some (.row [.int .i64 n.op, .int .i64 n.imm, eInts n.kids] 0 0) := S.get_new_self (s := ⟨.nil, 0⟩)
  generalize ((⟨.nil, 0⟩ : S).new (.row (V.agg (eN n)).cells 0 0)) = s1 at hrow ⊢
  show bo (vFaddr 0 (.ptr 0 0 0 3)) _
  rw [vFaddr_ptr, bo_some]
  refine ir_vo_box ?_ hrow
  refine (ir_Arity_pu n.op).c (.cons (.int _ _) .nil) ?_
  simp only [vExtract, List.getElem?_cons_zero, List.getElem?_cons_succ, bo_some, un_not]
  generalize hsp : validOperandsS n.op s = spec
  unfold validOperandsS at hsp
  have hp3 : ∀ b : Bool, (b = true ↔ ((arityS n.op).2 = false ∨ (0 ≤ (arityS n.op).1 ∧ (arityS n.op).1 ≠ s.length))) → ir_validOperands.p3 (fun v1 _ => v1 = .bool spec) (eInts s) (.ptr 0 0 0 3) (.bool b) s1 := by
    intro b hb2
    refine ir_validOperands.p3_s fun _ => ?_
    cases b with
    | true =>
      rw [if_pos (hb2.1 rfl)] at hsp
      simp [hsp]
    | false =>
      have hno : ¬ ((arityS n.op).2 = false ∨ (0 ≤ (arityS n.op).1 ∧ (arityS n.op).1 ≠ s.length)) := fun h => by simpa using hb2.2 h
      rw [if_neg hno] at hsp
      simp only [br_bool, Bool.false_eq_true, if_false, vFaddr_ptr, bo_some]
      refine ir_vo_box ?_ hrow
      simp only [bin_eql, bo_some, br_bool, decide_eq_true_eq]
      split
      · rename_i h31
        rw [if_pos h31] at hsp
        simp only [vLen_eS, bo_some, bin_geq, br_bool, decide_eq_true_eq]
        split
        · rename_i h3
          have h3' : 3 ≤ s.length := by omega
          rw [bin_rem (by decide), bo_some, bin_eql, bo_some]
          refine ir_validOperands.p4_s fun _ => ?_
          have hrem : ((s.length : Int).tmod 2 = 1) ↔ s.length % 2 = 1 := by
            show ((s.length % 2 : Nat) : Int) = 1 ↔ _
            omega
          simp only [br_bool, decide_eq_true_eq, hrem]
          split
          · rename_i h4
            simp only [vLen_eS, bo_some]
            refine (ir_loopVars_pu _ hb).c (.cons (.int _ _) .nil) ?_
            simp only [bin_leq, bo_some]
            refine ir_vo_p9 h3' hb ?_
            rw [← hsp]
            have : ((lv s.length : Int) ≤ 16) ↔ lv s.length ≤ 16 := by omega
            simp [h3', h4, this]
          · rename_i h4
            refine ir_vo_p9 h3' hb ?_
            rw [← hsp]; simp [h4]
        · rename_i h3
          refine ir_validOperands.p4_s fun _ => ?_
          simp only [br_bool, Bool.false_eq_true, if_false]
          refine ir_validOperands.p9_s fun _ => ?_
          rw [← hsp]; simp only [br_bool, Bool.false_eq_true, if_false]
          have : ¬ 3 ≤ s.length := by omega
          simp [this]
      · rename_i h31
        rw [if_neg h31] at hsp
        refine ir_vo_box ?_ hrow
        simp only [bin_eql, bo_some, br_bool, decide_eq_true_eq]
        split
        · rename_i h30
          rw [if_pos h30] at hsp
          simp only [vLen_eS, bo_some, bin_lss, bin_gtr, br_bool, decide_eq_true_eq]
          split
          · rename_i h1
            refine ir_validOperands.p5_s fun _ => ?_
            simp only [br_bool, if_true]
            refine ir_validOperands.p7_s fun _ => ?_
            have : ¬ 1 ≤ s.length := by omega
            rw [← hsp]; simp only [br_bool, if_true]
            rw [decide_eq_false this]; rfl
          · rename_i h1
            have h1' : 1 ≤ s.length := by omega
            refine ir_validOperands.p5_s fun _ => ?_
            simp only [br_bool, decide_eq_true_eq]
            split
            · rename_i h7
              refine ir_validOperands.p7_s fun _ => ?_
              have : ¬ s.length ≤ 7 := by omega
              rw [← hsp]; simp only [br_bool, if_true]
              rw [decide_eq_false this]; simp
            · rename_i h7
              refine get_int (i := 0) (by omega) ?_
              simp only [bin_neq, bo_some]
              refine ir_vo_p7 h1' hb ?_
              have : s.length ≤ 7 := by omega
              rw [← hsp, decide_eq_true h1', decide_eq_true this]
              simp only [Bool.true_and, Bool.not_not]
        · rename_i h30
          rw [if_neg h30] at hsp
          have hl := arity_len hno h31 h30
          refine ir_vo_box ?_ hrow
          simp only [bin_eql, bo_some, br_bool, decide_eq_true_eq]
          split
          · rename_i h22
            have hs3 : s.length = 3 := by
              simp only [not_or, not_and, Decidable.not_not] at hno
              have := hno.2
              rw [h22] at this
              have := this (by decide)
              have e : (arityS 22).1 = 3 := by decide
              rw [e] at this; omega
            refine get_int (i := 1) (by omega) ?_
            simp only [bin_eql, bo_some]
            by_cases h2 : s.getD 1 0 = 2
            · rw [decide_eq_true h2]
              rw [if_pos ⟨h22, h2⟩] at hsp
              refine ir_validOperands.p6_s fun _ => ?_
              simp only [br_bool, if_true]
              refine get_int (i := 0) (by omega) ?_
              simp only [bin_eql, bo_some, br_bool, decide_eq_true_eq]
              split
              · rename_i h0
                refine get_int (i := 2) (by omega) ?_
                simp only [bin_eql, bo_some]
                rw [← hsp, decide_eq_true h0]; rfl
              · rename_i h0
                rw [← hsp, decide_eq_false h0]; rfl
            · rw [decide_eq_false h2]
              rw [if_neg (fun h => h2 h.2)] at hsp
              exact ir_vo_p6 hb hl hrow (by rw [← hsp])
          · rename_i h22
            rw [if_neg (fun h => h22 h.1)] at hsp
            exact ir_vo_p6 hb hl hrow (by rw [← hsp])
  have hp3t : (arityS n.op).2 = false → ir_validOperands.p3 (fun v1 _ => v1 = .bool spec) (eInts s) (.ptr 0 0 0 3) (.bool true) s1 := fun h => hp3 true (by simp [h])
  cases h2 : (arityS n.op).2 with
  | false =>
    simp only [Bool.not_false, gF_bool, if_true]
    refine ir_validOperands.p1_s fun _ => ?_
    rw [gT_undef]
    refine ir_validOperands.p2_s fun _ => ?_
    simp only [br_bool, if_true]
    exact hp3t h2
  | true =>
    simp only [Bool.not_true, gF_bool, Bool.false_eq_true, if_false, bin_geq, bo_some]
    refine ir_validOperands.p1_s fun _ => ?_
    simp only [gT_bool, decide_eq_true_eq, vLen_eS, bo_some, bin_neq]
    split
    · rename_i h0
      refine ir_validOperands.p2_s fun _ => ?_
      simp only [br_bool, Bool.false_eq_true, if_false, h0, decide_true, vPick_t, bo_some]
      exact hp3 _ (by simp [h2, h0])
    · rename_i h0
      refine ir_validOperands.p2_s fun _ => ?_
      simp only [br_bool, Bool.false_eq_true, if_false, h0, decide_false, vPick_f, bo_some]
      exact hp3 false (by simp [h2, h0])
end Go.Am.Ytmjaimpkjjkliaa
