/- Chapter 7, the program: Arity, match, the sorts' parts. -/
import Derived.Test.YtmjaimpkjjkliaaGreatVir
import Derived.Test.YtmjaimpkjjkliaaGreatAmM24
import Derived.Test.YtmjaimpkjjkliaaGreatAmM27
namespace Go.Am.YtmjaimpkjjkliaaGreat
open Go.Proofs
set_option linter.unusedVariables false

def arityS (op : Int) : Int × Bool :=
  if op = 1 ∨ op = 2 ∨ op = 3 ∨ op = 26 then (0, true)
  else if op = 20 ∨ op = 21 ∨ op = 24 ∨ op = 25 then (1, true)
  else if op = 23 ∨ op = 27 ∨ op = 29 then (2, true)
  else if op = 22 ∨ op = 28 then (3, true)
  else if op = 30 ∨ op = 31 then (-1, true)
  else if 4 ≤ op ∧ op ≤ 19 then (2, true)
  else (0, false)

theorem ir_Arity_pu (op : Int) : Pu Pg F.ir_Arity [.int .i64 op] (.tup [.int .i64 (arityS op).1, .bool (arityS op).2]) := by
  refine Pu.fl ir_Arity_k rfl (ir_Arity_c (ir_Arity.p0_s fun _ => ?_))
  repeat' first
    | (refine ir_Arity.p1_s fun _ => ?_)
    | (refine ir_Arity.p2_s fun _ => ?_)
    | (refine ir_Arity.p3_s fun _ => ?_)
    | (refine ir_Arity.p4_s fun _ => ?_)
    | (refine ir_Arity.p5_s fun _ => ?_)
    | (refine ir_Arity.p6_s fun _ => ?_)
    | split
    | simp only [bin_eql, bin_geq, bin_leq, bo_some, br_bool, decide_eq_true_eq]
  all_goals simp_all [arityS]
  all_goals first | omega | (split <;> (try simp_all) <;> omega)

/-! ### loopVars -/
def lv (n : Nat) : Nat := (n - 1) / 2
theorem tdiv_lv (n : Nat) : ((n : Int) - 1).tdiv 2 = (lv n : Int) := by
  cases n with
  | zero => rfl
  | succ n =>
    rw [show ((n + 1 : Nat) : Int) - 1 = (n : Int) by omega]
    rfl
theorem ir_loopVars_pu (n : Nat) (h : n < 1073741824) : Pu Pg F.ir_loopVars [.int .i64 (n : Int)] (.int .i64 (lv n : Int)) := by
  refine Pu.fl ir_loopVars_k rfl (ir_loopVars_c (ir_loopVars.p0_s fun _ => ?_))
  rw [bin_sub (by omega) (by omega), bo_some]
  have hl : lv n ≤ n := by unfold lv; omega
  rw [bin_quo (by decide) (by rw [tdiv_lv]; omega) (by rw [tdiv_lv]; omega), bo_some, tdiv_lv]

/-! ### match -/
def matchS : List Int → List Int → Bool
  | [], _ => true
  | _ :: _, [] => false
  | a :: s, b :: w => decide (a = b) && matchS s w
theorem matchS_drop {s w : List Int} {i : Nat} (h1 : i < s.length) (h2 : i < w.length) : matchS (s.drop i) (w.drop i) = (decide (s.getD i 0 = w.getD i 0) && matchS (s.drop (i + 1)) (w.drop (i + 1))) := by
  rw [drop_getD s i h1, drop_getD w i h2]; rfl
theorem ir_match_p1 {s w : List Int} (h : s.length ≤ w.length) (hb : s.length < 1073741824) {R : V → S → Prop} {st : S} : ∀ n i, s.length - i = n → i ≤ s.length → R (.bool (matchS (s.drop i) (w.drop i))) st →
    ir_match.p1 R (eInts s) (eInts w) (.int .i64 (i : Int)) st := by
  intro n
  induction n with
  | zero =>
    intro i hn hi hR
    obtain rfl : i = s.length := by omega
    refine ir_match.p1_s fun _ => ?_
    simpa [matchS] using hR
  | succ n ih =>
    intro i hn hi hR
    have h1 : i < s.length := by omega
    have h2 : i < w.length := by omega
    rw [matchS_drop h1 h2] at hR
    refine ir_match.p1_s fun _ => ?_
    simp only [vLen_eS, bo_some, bin_lss, br_bool, decide_eq_true_eq, Int.ofNat_lt]
    rw [if_pos h1]
    refine get_int h1 (get_int h2 ?_)
    simp only [bo_some, bin_neq, br_bool]
    by_cases hx : s.getD i 0 = w.getD i 0
    · simp only [hx, decide_true, Bool.not_true, Bool.false_eq_true, if_false, Bool.true_and] at hR ⊢
      rw [bin_inc (by omega), bo_some]
      exact ih (i + 1) (by omega) (by omega) hR
    · simp only [hx, decide_false, Bool.not_false, if_true, Bool.false_and] at hR ⊢
      exact hR
theorem ir_match_pu {s w : List Int} (h : s.length ≤ w.length) (hb : s.length < 1073741824) : Pu Pg F.ir_match [eInts s, eInts w] (.bool (matchS s w)) := by
  refine Pu.fl ir_match_k rfl (ir_match_c (ir_match.p0_s fun _ => ?_))
  exact ir_match_p1 h hb s.length 0 rfl (Nat.zero_le _) rfl

/-! ### operandSorts -/
def operandSortsS (op : Int) : List Int :=
  if op = 22 then [1, 1, 1] else if op = 23 ∨ op = 27 ∨ op = 29 then [2, 1] else if op = 28 then [2, 1, 1] else if op = 24 then [2] else if op = 25 then [3] else [1, 1]
theorem fz_new {s : S} {l : List Int} {n : Nat} (hl : n = l.length) : Fz (s.new (.row (l.map fun n => V.int .i64 n) 0 0)).h (.sl s.n 0 0 n 1) (eInts l) :=
  Ls.ints (s := s.new _) (.of (by simp [hl]) S.get_new_self (Nat.le_refl _))
theorem ir_operandSorts_pu (op : Int) : Pu Pg F.ir_operandSorts [.int .i64 op] (eInts (operandSortsS op)) := by
  refine Pu.fz ir_operandSorts_k (ir_operandSorts_c (ir_operandSorts.p0_s fun _ => ?_))
  repeat' first
    | (refine ir_operandSorts.p1_s fun _ => ?_)
    | split
    | simp only [bin_eql, bo_some, br_bool, decide_eq_true_eq]
  all_goals refine bn_bslice.2 ⟨_, rfl, rfl, ?_⟩
  all_goals first
    | (rw [show operandSortsS op = [1, 1, 1] by simp_all [operandSortsS]]; exact fz_new (l := [1, 1, 1]) rfl)
    | (rw [show operandSortsS op = [2, 1] by simp_all [operandSortsS]]; exact fz_new (l := [2, 1]) rfl)
    | (rw [show operandSortsS op = [2, 1, 1] by simp_all [operandSortsS]]; exact fz_new (l := [2, 1, 1]) rfl)
    | (rw [show operandSortsS op = [2] by simp_all [operandSortsS]]; exact fz_new (l := [2]) rfl)
    | (rw [show operandSortsS op = [3] by simp_all [operandSortsS]]; exact fz_new (l := [3]) rfl)
    | (rw [show operandSortsS op = [1, 1] by simp_all [operandSortsS]]; exact fz_new (l := [1, 1]) rfl)

/-! ### loopSorts -/
def loopSortsS (n : Nat) : List Int := ((List.replicate n 1).set 0 2).set (lv n + 1) 2
theorem map_set_int (l : List Int) (i : Nat) (x : Int) : (l.map fun n => V.int .i64 n).set i (.int .i64 x) = (l.set i x).map fun n => V.int .i64 n := by
  rw [List.map_set]
theorem ir_loopSorts_p1 {k : Nat} (hk : 3 ≤ k) (hb : k < 1073741824) {R : V → S → Prop} (hR : ∀ v s, WF s → Ls s 1 v ((loopSortsS k).map fun n => V.int .i64 n) k → R v s) :
    ∀ n i, k - i = n → i ≤ k → ∀ v s, Ls s 1 v ((List.replicate i (1 : Int)).map fun n => V.int .i64 n) i → ir_loopSorts.p1 R (.int .i64 (k : Int)) v (.int .i64 (i : Int)) s := by
  intro n
  induction n with
  | zero =>
    intro i hn hi v s hL
    obtain rfl : i = k := by omega
    refine ir_loopSorts.p1_s fun hw => ?_
    simp only [bo_some, bin_lss, br_bool, decide_eq_true_eq, Int.ofNat_lt, Nat.lt_irrefl, if_false]
    refine (ir_loopVars_pu i hb).c (.cons (.int _ _) .nil) ?_
    have hl : lv i + 1 < i := by unfold lv; omega
    rw [bin_inc (by omega), bo_some]
    refine put_one (i := 0) hL hw (by omega) rfl rfl rfl fun s1 hw1 hL1 _ => ?_
    refine put_one hL1 hw1 hl rfl rfl rfl fun s2 hw2 hL2 _ => ?_
    rw [map_set_int, map_set_int] at hL2
    exact hR v s2 hw2 hL2
  | succ n ih =>
    intro i hn hi v s hL
    have h1 : i < k := by omega
    refine ir_loopSorts.p1_s fun hw => ?_
    simp only [bo_some, bin_lss, br_bool, decide_eq_true_eq, Int.ofNat_lt]
    rw [if_pos h1]
    refine app_one (new := [.int .i64 1]) hL hw rfl rfl rfl (by decide) (by omega) fun v' s' hw' hL' _ _ => ?_
    rw [bin_inc (by omega), bo_some]
    refine ih (i + 1) (by omega) (by omega) v' s' ?_
    rw [List.replicate_succ', List.map_append]
    exact hL'
theorem ir_loopSorts_pu {k : Nat} (hk : 3 ≤ k) (hb : k < 1073741824) : Pu Pg F.ir_loopSorts [.int .i64 (k : Int)] (eInts (loopSortsS k)) := by
  refine Pu.fz ir_loopSorts_k (ir_loopSorts_c (ir_loopSorts.p0_s fun _ => ?_))
  exact ir_loopSorts_p1 hk hb (fun v s _ hL => hL.ints) k 0 rfl (Nat.zero_le _) _ _ .nil
end Go.Am.YtmjaimpkjjkliaaGreat
namespace Go.Am.YtmjaimpkjjkliaaGreat
open Go.Proofs
set_option linter.unusedVariables false

/-! ### validOperands -/
def validOperandsS (op : Int) (s : List Int) : Bool :=
  if (arityS op).2 = false ∨ (0 ≤ (arityS op).1 ∧ (arityS op).1 ≠ s.length) then false
  else if op = 31 then decide (3 ≤ s.length) && decide (s.length % 2 = 1) && decide (lv s.length ≤ 16) && matchS s (loopSortsS s.length)
  else if op = 30 then decide (1 ≤ s.length) && decide (s.length ≤ 7) && decide (s.getD 0 0 = 2) && (s.drop 1).all (fun x => decide (x = 1))
  else if op = 22 ∧ s.getD 1 0 = 2 then decide (s.getD 0 0 = 1) && decide (s.getD 2 0 = 2)
  else matchS s (operandSortsS op)

theorem ir_vo_p8 {t : List Int} (hb : t.length < 1073741824) {v : V} (hv : v = eInts t ∨ ∃ cs, v = .lit cs t.length ∧ cs = t.flatMap e1 ∧ t ≠ []) {R : V → S → Prop} {s : S} : ∀ n i, t.length - i = n → i ≤ t.length → R (.bool ((t.drop i).all fun x => decide (x = 1))) s →
    ir_validOperands.p8 R v (.int .i64 (t.length : Int)) (.int .i64 (i : Int)) s := by
  have hv' : v = eInts t := by
    rcases hv with h | ⟨cs, h, rfl, hne⟩
    · exact h
    · rw [h]; unfold eInts eS
      cases t with
      | nil => exact absurd rfl hne
      | cons a t => rfl
  subst hv'
  intro n
  induction n with
  | zero =>
    intro i hn hi hR
    obtain rfl : i = t.length := by omega
    refine ir_validOperands.p8_s fun _ => ?_
    simpa using hR
  | succ n ih =>
    intro i hn hi hR
    have h1 : i < t.length := by omega
    rw [drop_getD t i h1, List.all_cons] at hR
    refine ir_validOperands.p8_s fun _ => ?_
    simp only [bo_some, bin_lss, br_bool, decide_eq_true_eq, Int.ofNat_lt]
    rw [if_pos h1]
    refine get_int h1 ?_
    simp only [bo_some, bin_neq, br_bool]
    by_cases hx : t.getD i 0 = 1
    · have hx' : t.getD i default = 1 := hx
      simp only [hx, hx', decide_true, Bool.not_true, Bool.false_eq_true, if_false, Bool.true_and] at hR ⊢
      rw [bin_inc (by omega), bo_some]
      exact ih (i + 1) (by omega) (by omega) hR
    · have hx' : ¬ t.getD i default = 1 := hx
      simp only [hx, hx', decide_false, Bool.not_false, if_true, Bool.false_and] at hR ⊢
      exact hR

theorem vSlice_from {l : List Int} (h : 1 < l.length) : vSlice 1 (eInts l) (some (.int .i64 1)) none = some (.lit ((l.drop 1).flatMap e1) (l.drop 1).length) := by
  unfold eInts eS
  obtain ⟨a, l, rfl⟩ : ∃ a t, l = a :: t := by cases l with | nil => simp at h | cons a t => exact ⟨a, t, rfl⟩
  have hl : 1 ≤ l.length := by simp at h; omega
  simp only [List.length_cons, eL, vSlice, vBounds, natOf_one]
  rw [show (Nat.ble 1 (l.length + 1) && Nat.ble (l.length + 1) (l.length + 1)) = true by simp]
  simp only [cond_true]
  rw [show Nat.beq 1 (l.length + 1) = false by
    cases hb : Nat.beq 1 (l.length + 1) with
    | false => rfl
    | true => have := Nat.eq_of_beq_eq_true hb; omega]
  simp
theorem vSlice_from1 {l : List Int} (h : l.length = 1) : vSlice 1 (eInts l) (some (.int .i64 1)) none = some .emp := by
  obtain ⟨a, rfl⟩ : ∃ a, l = [a] := by
    match l, h with
    | [a], _ => exact ⟨a, rfl⟩
  rfl

theorem ir_vo_box {op : Int} {x1 x2 : V} {s : S} {x : V → Prop} (h : x (.int .i64 op)) (hs : s.h.get 0 = some (.row [.int .i64 op, x1, x2] 0 0)) : bo (loadAt s.h none (.ptr 0 0 0 3)) x := by
  rw [load_ptr hs (Nat.le_refl _) (by decide) rfl, bo_some]; exact h

theorem ir_vo_p9 {s : List Int} (h3 : 3 ≤ s.length) (hb : s.length < 1073741824) {b : Bool} {R : V → S → Prop} {st : S} (hR : R (.bool (b && matchS s (loopSortsS s.length))) st) : ir_validOperands.p9 R (eInts s) (.bool b) st := by
  refine ir_validOperands.p9_s fun _ => ?_
  cases b with
  | false => simpa using hR
  | true =>
    simp only [br_bool, if_true, vLen_eS, bo_some]
    refine (ir_loopSorts_pu h3 hb).c (.cons (.int _ _) .nil) ?_
    refine (ir_match_pu (by simp [loopSortsS]) hb).c (.cons (cv_ints _) (.cons (cv_ints _) .nil)) ?_
    simpa using hR

theorem ir_vo_p6 {op : Int} {s : List Int} {x1 x2 : V} (hb : s.length < 1073741824) (hl : s.length ≤ (operandSortsS op).length) {R : V → S → Prop} {st : S} (hs : st.h.get 0 = some (.row [.int .i64 op, x1, x2] 0 0))
    (hR : R (.bool (matchS s (operandSortsS op))) st) : ir_validOperands.p6 R (eInts s) (.ptr 0 0 0 3) (.bool false) st := by
  refine ir_validOperands.p6_s fun _ => ?_
  simp only [br_bool, Bool.false_eq_true, if_false, vFaddr_ptr, bo_some]
  refine ir_vo_box ?_ hs
  refine (ir_operandSorts_pu op).c (.cons (.int _ _) .nil) ?_
  exact (ir_match_pu hl hb).c (.cons (cv_ints _) (.cons (cv_ints _) .nil)) hR

theorem ir_vo_p7 {s : List Int} (h1 : 1 ≤ s.length) (hb : s.length < 1073741824) {b : Bool} {R : V → S → Prop} {st : S} (hR : R (.bool (!b && (s.drop 1).all fun x => decide (x = 1))) st) : ir_validOperands.p7 R (eInts s) (.bool b) st := by
  refine ir_validOperands.p7_s fun _ => ?_
  cases b with
  | true => simpa using hR
  | false =>
    simp only [br_bool, Bool.false_eq_true, if_false]
    by_cases h2 : s.length = 1
    · rw [vSlice_from1 h2, bo_some]
      have hd : s.drop 1 = [] := List.drop_eq_nil_of_le (by omega)
      rw [hd] at hR
      show bo (some _) _
      rw [bo_some]
      refine ir_vo_p8 (t := []) (by simp) (.inl rfl) 0 0 rfl (Nat.zero_le _) ?_
      simpa using hR
    · rw [vSlice_from (by omega), bo_some]
      show bo (some _) _
      rw [bo_some]
      refine ir_vo_p8 (t := s.drop 1) (by simp; omega) (.inr ⟨_, rfl, rfl, fun h => by rw [List.drop_eq_nil_iff] at h; omega⟩) (s.drop 1).length 0 rfl (Nat.zero_le _) ?_
      simpa using hR

theorem arity_len {op : Int} {s : List Int} (h : ¬ ((arityS op).2 = false ∨ (0 ≤ (arityS op).1 ∧ (arityS op).1 ≠ s.length))) (h1 : op ≠ 31) (h2 : op ≠ 30) : s.length ≤ (operandSortsS op).length := by
  simp only [not_or, not_and, Decidable.not_not] at h
  obtain ⟨ha, hb⟩ := h
  unfold arityS at ha hb
  unfold operandSortsS
  repeat' split at ha
  all_goals (try (simp at ha; done))
  all_goals (repeat' split)
  all_goals (try simp_all)
  all_goals omega

theorem ir_validOperands_pu (n : Node) (s : List Int) (hb : s.length < 1073741824) : Pu Pg F.ir_validOperands [.agg (eN n), eInts s] (.bool (validOperandsS n.op s)) := by
  refine Pu.fl ir_validOperands_k rfl (ir_validOperands_c (ir_validOperands.p0_s fun _ => ?_))
  rw [bn_box]
  refine ⟨rfl, ?_⟩
  have hrow : ((⟨.nil, 0⟩ : S).new (.row (V.agg (eN n)).cells 0 0)).h.get 0 = some (.row [.int .i64 n.op, .int .i64 n.imm, eInts n.kids] 0 0) := S.get_new_self (s := ⟨.nil, 0⟩)
  generalize ((⟨.nil, 0⟩ : S).new (.row (V.agg (eN n)).cells 0 0)) = s1 at hrow ⊢
  show bo (vFaddr 0 (.ptr 0 0 0 3)) _
  rw [vFaddr_ptr, bo_some]
  refine ir_vo_box ?_ hrow
  refine (ir_Arity_pu n.op).c (.cons (.int _ _) .nil) ?_
  simp only [vExtract, List.getElem?_cons_zero, List.getElem?_cons_succ, bo_some, un_not]
  generalize hsp : validOperandsS n.op s = spec
  unfold validOperandsS at hsp
  have hp3 : ∀ b : Bool, (b = true ↔ ((arityS n.op).2 = false ∨ (0 ≤ (arityS n.op).1 ∧ (arityS n.op).1 ≠ s.length))) → ir_validOperands.p3 (fun v1 _ => v1 = .bool spec) (eInts s) (.ptr 0 0 0 3) (.bool b) s1 := by
    intro b hb2
    refine ir_validOperands.p3_s fun _ => ?_
    cases b with
    | true =>
      rw [if_pos (hb2.1 rfl)] at hsp
      simp [hsp]
    | false =>
      have hno : ¬ ((arityS n.op).2 = false ∨ (0 ≤ (arityS n.op).1 ∧ (arityS n.op).1 ≠ s.length)) := fun h => by simpa using hb2.2 h
      rw [if_neg hno] at hsp
      simp only [br_bool, Bool.false_eq_true, if_false, vFaddr_ptr, bo_some]
      refine ir_vo_box ?_ hrow
      simp only [bin_eql, bo_some, br_bool, decide_eq_true_eq]
      split
      · rename_i h31
        rw [if_pos h31] at hsp
        simp only [vLen_eS, bo_some, bin_geq, br_bool, decide_eq_true_eq]
        split
        · rename_i h3
          have h3' : 3 ≤ s.length := by omega
          rw [bin_rem (by decide), bo_some, bin_eql, bo_some]
          refine ir_validOperands.p4_s fun _ => ?_
          have hrem : ((s.length : Int).tmod 2 = 1) ↔ s.length % 2 = 1 := by
            show ((s.length % 2 : Nat) : Int) = 1 ↔ _
            omega
          simp only [br_bool, decide_eq_true_eq, hrem]
          split
          · rename_i h4
            simp only [vLen_eS, bo_some]
            refine (ir_loopVars_pu _ hb).c (.cons (.int _ _) .nil) ?_
            simp only [bin_leq, bo_some]
            refine ir_vo_p9 h3' hb ?_
            rw [← hsp]
            have : ((lv s.length : Int) ≤ 16) ↔ lv s.length ≤ 16 := by omega
            simp [h3', h4, this]
          · rename_i h4
            refine ir_vo_p9 h3' hb ?_
            rw [← hsp]; simp [h4]
        · rename_i h3
          refine ir_validOperands.p4_s fun _ => ?_
          simp only [br_bool, Bool.false_eq_true, if_false]
          refine ir_validOperands.p9_s fun _ => ?_
          rw [← hsp]; simp only [br_bool, Bool.false_eq_true, if_false]
          have : ¬ 3 ≤ s.length := by omega
          simp [this]
      · rename_i h31
        rw [if_neg h31] at hsp
        refine ir_vo_box ?_ hrow
        simp only [bin_eql, bo_some, br_bool, decide_eq_true_eq]
        split
        · rename_i h30
          rw [if_pos h30] at hsp
          simp only [vLen_eS, bo_some, bin_lss, bin_gtr, br_bool, decide_eq_true_eq]
          split
          · rename_i h1
            refine ir_validOperands.p5_s fun _ => ?_
            simp only [br_bool, if_true]
            refine ir_validOperands.p7_s fun _ => ?_
            have : ¬ 1 ≤ s.length := by omega
            rw [← hsp]; simp only [br_bool, if_true]
            rw [decide_eq_false this]; rfl
          · rename_i h1
            have h1' : 1 ≤ s.length := by omega
            refine ir_validOperands.p5_s fun _ => ?_
            simp only [br_bool, decide_eq_true_eq]
            split
            · rename_i h7
              refine ir_validOperands.p7_s fun _ => ?_
              have : ¬ s.length ≤ 7 := by omega
              rw [← hsp]; simp only [br_bool, if_true]
              rw [decide_eq_false this]; simp
            · rename_i h7
              refine get_int (i := 0) (by omega) ?_
              simp only [bin_neq, bo_some]
              refine ir_vo_p7 h1' hb ?_
              have : s.length ≤ 7 := by omega
              rw [← hsp, decide_eq_true h1', decide_eq_true this]
              simp only [Bool.true_and, Bool.not_not]
        · rename_i h30
          rw [if_neg h30] at hsp
          have hl := arity_len hno h31 h30
          refine ir_vo_box ?_ hrow
          simp only [bin_eql, bo_some, br_bool, decide_eq_true_eq]
          split
          · rename_i h22
            have hs3 : s.length = 3 := by
              simp only [not_or, not_and, Decidable.not_not] at hno
              have := hno.2
              rw [h22] at this
              have := this (by decide)
              have e : (arityS 22).1 = 3 := by decide
              rw [e] at this; omega
            refine get_int (i := 1) (by omega) ?_
            simp only [bin_eql, bo_some]
            by_cases h2 : s.getD 1 0 = 2
            · rw [decide_eq_true h2]
              rw [if_pos ⟨h22, h2⟩] at hsp
              refine ir_validOperands.p6_s fun _ => ?_
              simp only [br_bool, if_true]
              refine get_int (i := 0) (by omega) ?_
              simp only [bin_eql, bo_some, br_bool, decide_eq_true_eq]
              split
              · rename_i h0
                refine get_int (i := 2) (by omega) ?_
                simp only [bin_eql, bo_some]
                rw [← hsp, decide_eq_true h0]; rfl
              · rename_i h0
                rw [← hsp, decide_eq_false h0]; rfl
            · rw [decide_eq_false h2]
              rw [if_neg (fun h => h2 h.2)] at hsp
              exact ir_vo_p6 hb hl hrow (by rw [← hsp])
          · rename_i h22
            rw [if_neg (fun h => h22 h.1)] at hsp
            exact ir_vo_p6 hb hl hrow (by rw [← hsp])
  have hp3t : (arityS n.op).2 = false → ir_validOperands.p3 (fun v1 _ => v1 = .bool spec) (eInts s) (.ptr 0 0 0 3) (.bool true) s1 := fun h => hp3 true (by simp [h])
  cases h2 : (arityS n.op).2 with
  | false =>
    simp only [Bool.not_false, gF_bool, if_true]
    refine ir_validOperands.p1_s fun _ => ?_
    rw [gT_undef]
    refine ir_validOperands.p2_s fun _ => ?_
    simp only [br_bool, if_true]
    exact hp3t h2
  | true =>
    simp only [Bool.not_true, gF_bool, Bool.false_eq_true, if_false, bin_geq, bo_some]
    refine ir_validOperands.p1_s fun _ => ?_
    simp only [gT_bool, decide_eq_true_eq, vLen_eS, bo_some, bin_neq]
    split
    · rename_i h0
      refine ir_validOperands.p2_s fun _ => ?_
      simp only [br_bool, Bool.false_eq_true, if_false, h0, decide_true, vPick_t, bo_some]
      exact hp3 _ (by simp [h2, h0])
    · rename_i h0
      refine ir_validOperands.p2_s fun _ => ?_
      simp only [br_bool, Bool.false_eq_true, if_false, h0, decide_false, vPick_f, bo_some]
      exact hp3 false (by simp [h2, h0])
end Go.Am.YtmjaimpkjjkliaaGreat
namespace Go.Am.YtmjaimpkjjkliaaGreat
open Go.Proofs
set_option linter.unusedVariables false

/-! ### validImm -/
def validImmS (l : List Node) (n : Node) : Bool :=
  if n.op = 1 then true
  else if n.op = 27 then decide (1 ≤ n.imm) && decide (n.imm ≤ 1000016)
  else decide (0 ≤ n.imm) && decide (n.imm ≤
    (if n.op = 2 then 5 else if n.op = 3 then 255 else if n.op = 23 ∨ n.op = 28 then 3 else if n.op = 30 then 7 else if n.op = 31 then 15
     else if n.op = 25 then (lv (l.getD (n.kids.getD 0 0).toNat default).kids.length : Int) - 1 else 0))
def KidOk (l : List Node) (n : Node) : Prop := 0 < n.kids.length ∧ 0 ≤ n.kids.getD 0 0 ∧ n.kids.getD 0 0 < l.length ∧ (l.getD (n.kids.getD 0 0).toNat default).kids.length < 1073741824

theorem ir_vi_p1 {n : Node} {m : Int} {R : V → S → Prop} {s : S} (hs : s.h.get 0 = some (.row (eN n) 0 0)) (hR : R (.bool (decide (0 ≤ n.imm) && decide (n.imm ≤ m))) s) : ir_validImm.p1 R (.ptr 0 0 0 3) (.int .i64 m) s := by
  refine ir_validImm.p1_s fun _ => ?_
  refine fld hs (Nat.le_refl _) (by decide) rfl ?_
  simp only [bin_geq, bo_some, br_bool, decide_eq_true_eq]
  split
  · rename_i h
    refine fld hs (Nat.le_refl _) (by decide) rfl ?_
    simp only [bin_leq, bo_some]
    simpa [h] using hR
  · rename_i h
    simpa [h] using hR

theorem ir_validImm_pu {l : List Node} {n : Node} (hk : n.op = 25 → KidOk l n) : Pu Pg F.ir_validImm [eNodes l, .agg (eN n)] (.bool (validImmS l n)) := by
  refine Pu.fl ir_validImm_k rfl (ir_validImm_c (ir_validImm.p0_s fun _ => ?_))
  rw [bn_box]
  refine ⟨rfl, ?_⟩
  have hrow : ((⟨.nil, 0⟩ : S).new (.row (V.agg (eN n)).cells 0 0)).h.get 0 = some (.row (eN n) 0 0) := S.get_new_self (s := ⟨.nil, 0⟩)
  generalize ((⟨.nil, 0⟩ : S).new (.row (V.agg (eN n)).cells 0 0)) = s1 at hrow ⊢
  show bo (vFaddr 0 (.ptr 0 0 0 3)) _
  refine fld hrow (Nat.le_refl _) (by decide) rfl ?_
  generalize hsp : validImmS l n = spec
  unfold validImmS at hsp
  have hp2 : ∀ b : Bool, n.op ≠ 1 → n.op ≠ 2 → n.op ≠ 3 → (b = true ↔ n.op = 23 ∨ n.op = 28) → ir_validImm.p2 (fun v1 _ => v1 = .bool spec) (eNodes l) (.ptr 0 0 0 3) (.int .i64 0) (.int .i64 n.op) (.bool b) s1 := by
    intro b n1 n2 n3 hb
    refine ir_validImm.p2_s fun _ => ?_
    simp only [br_bool, bin_eql, bo_some, decide_eq_true_eq]
    rw [if_neg n1] at hsp
    split
    · rename_i h
      have h' := hb.1 h
      refine ir_vi_p1 hrow ?_
      rw [← hsp, if_neg (by omega), if_neg n2, if_neg n3, if_pos h']
    · rename_i h
      have h' : ¬ (n.op = 23 ∨ n.op = 28) := fun hc => h (hb.2 hc)
      split
      · rename_i h27
        refine fld hrow (Nat.le_refl _) (by decide) rfl ?_
        simp only [bin_geq, bo_some, br_bool, decide_eq_true_eq]
        rw [if_pos h27] at hsp
        split
        · rename_i h1
          refine fld hrow (Nat.le_refl _) (by decide) rfl ?_
          simp only [bin_leq, bo_some]
          rw [← hsp, decide_eq_true h1]; rfl
        · rename_i h1
          rw [← hsp, decide_eq_false h1]; rfl
      · rename_i h27
        rw [if_neg h27, if_neg n2, if_neg n3, if_neg h'] at hsp
        split
        · rename_i h30
          refine ir_vi_p1 hrow ?_
          rw [← hsp, if_pos h30]
        · rename_i h30
          rw [if_neg h30] at hsp
          split
          · rename_i h31
            refine ir_vi_p1 hrow ?_
            rw [← hsp, if_pos h31]
          · rename_i h31
            rw [if_neg h31] at hsp
            split
            · rename_i h25
              obtain ⟨k1, k2, k3, k4⟩ := hk h25
              refine fld hrow (Nat.le_refl _) (by decide) rfl ?_
              refine get_int (i := 0) k1 ?_
              rw [vIaddr_nodesi k2 k3]
              simp only [bo_some, vFaddr_lptr, List.drop_succ_cons, List.drop_zero, load_lptr', vLen_eS]
              refine (ir_loopVars_pu _ k4).c (.cons (.int _ _) .nil) ?_
              have hl : lv (l.getD (n.kids.getD 0 0).toNat default).kids.length ≤ (l.getD (n.kids.getD 0 0).toNat default).kids.length := by unfold lv; omega
              rw [bin_sub (by omega) (by omega), bo_some]
              refine ir_vi_p1 hrow ?_
              rw [← hsp, if_pos h25]
            · rename_i h25
              refine ir_vi_p1 hrow ?_
              rw [← hsp, if_neg h25]
  simp only [bin_eql, bo_some, br_bool, decide_eq_true_eq]
  split
  · rename_i h; rw [← hsp, if_pos h]
  · rename_i n1
    split
    · rename_i h
      refine ir_vi_p1 hrow ?_
      rw [← hsp, if_neg n1, if_neg (by omega), if_pos h]
    · rename_i n2
      split
      · rename_i h
        refine ir_vi_p1 hrow ?_
        rw [← hsp, if_neg n1, if_neg (by omega), if_neg n2, if_pos h]
      · rename_i n3
        split
        · rename_i h
          exact hp2 _ n1 n2 n3 (by simp [h])
        · rename_i h
          exact hp2 _ n1 n2 n3 (by simp [h])

/-! ### sortOf -/
theorem okN (n : Node) : okCells (V.agg (eN n)).cells = true := by
  show (true && (true && (okCell (eInts n.kids) && true))) = true
  rw [okCell_eS]; rfl
def kidS (i : Nat) (known : List Int) : List Int → Option (List Int)
  | [] => some []
  | k :: ks => if k < 0 ∨ (i : Int) ≤ k ∨ known.getD k.toNat 0 = 0 then none else (kidS i known ks).map (known.getD k.toNat 0 :: ·)
theorem kidS_len {i : Nat} {known : List Int} : ∀ {ks s : List Int}, kidS i known ks = some s → s.length = ks.length := by
  intro ks
  induction ks with
  | nil => intro s h; simp [kidS] at h; subst h; rfl
  | cons k ks ih =>
    intro s h
    unfold kidS at h
    split at h
    · simp at h
    · cases hk : kidS i known ks with
      | none => simp [hk] at h
      | some t => simp [hk] at h; subst h; simp [ih hk]
theorem kidS_mem {i : Nat} {known : List Int} : ∀ {ks s : List Int}, kidS i known ks = some s → ∀ k ∈ ks, 0 ≤ k ∧ k < i ∧ known.getD k.toNat 0 ≠ 0 := by
  intro ks
  induction ks with
  | nil => intro s _ k hk; simp at hk
  | cons k ks ih =>
    intro s h
    unfold kidS at h
    split at h
    · simp at h
    · rename_i hn
      cases hk : kidS i known ks with
      | none => simp [hk] at h
      | some t =>
        intro k' hk'
        rcases List.mem_cons.1 hk' with rfl | hm
        · omega
        · exact ih hk k' hm
/-- The sort of a node whose operands have these sorts. -/
def finS (l : List Node) (n : Node) (s : List Int) : Int :=
  if validOperandsS n.op s = false ∨ validImmS l n = false then 0
  else if n.op = 31 then 3
  else if n.op = 26 ∨ n.op = 27 ∨ n.op = 28 ∨ n.op = 29 ∨ n.op = 30 then 2
  else if n.op = 22 then s.getD 1 0
  else if n.op = 3 then (if n.imm.tmod 16 = 0 then 2 else 1)
  else if n.op = 25 then (if n.imm = 0 then 2 else 1)
  else 1
def sortAt (l : List Node) (i : Nat) (known : List Int) : Int :=
  match kidS i known (l.getD i default).kids with
  | none => 0
  | some s => finS l (l.getD i default) s

theorem map_int_append (a : List Int) (x : Int) : (a ++ [x]).map (fun n => V.int .i64 n) = a.map (fun n => V.int .i64 n) ++ [V.int .i64 x] := by simp

theorem ir_so_p3 {n : Node} {a : List Int} {v : V} {s : S} {b : Bool} {R : V → S → Prop} (hL : Ls s 1 v (a.map fun n => V.int .i64 n) a.length) (hs : s.h.get 0 = some (.row (eN n) 0 0)) (h22 : n.op = 22 → 1 < a.length)
    (hR : R (.int .i64 (if b = true then 2 else if n.op = 22 then a.getD 1 0 else if n.op = 3 then (if n.imm.tmod 16 = 0 then 2 else 1) else if n.op = 25 then (if n.imm = 0 then 2 else 1) else 1)) s) :
    ir_sortOf.p3 R (.ptr 0 0 0 3) v (.int .i64 n.op) (.bool b) s := by
  refine ir_sortOf.p3_s fun _ => ?_
  cases b with
  | true => simpa using hR
  | false =>
    simp only [br_bool, Bool.false_eq_true, if_false, bin_eql, bo_some, decide_eq_true_eq] at hR ⊢
    split
    · rename_i h
      rw [if_pos h] at hR
      refine get_one (i := 1) hL (h22 h) (c := .int .i64 (a.getD 1 0)) ?_ hR
      have := h22 h
      simp [List.getD, this]
    · rename_i h
      rw [if_neg h] at hR
      split
      · rename_i h3
        rw [if_pos h3] at hR
        refine fld hs (Nat.le_refl _) (by decide) rfl ?_
        rw [bin_rem (by decide), bo_some]
        simp only [bin_eql, bo_some, br_bool, decide_eq_true_eq]
        split <;> simp_all
      · rename_i h3
        rw [if_neg h3] at hR
        split
        · rename_i h25
          rw [if_pos h25] at hR
          refine fld hs (Nat.le_refl _) (by decide) rfl ?_
          simp only [bin_eql, bo_some, br_bool, decide_eq_true_eq]
          split <;> simp_all
        · rename_i h25
          rw [if_neg h25] at hR
          exact hR

theorem vo22 {op : Int} {s : List Int} (h : validOperandsS op s = true) (h22 : op = 22) : 1 < s.length := by
  subst h22
  unfold validOperandsS at h
  split at h
  · simp at h
  · rename_i hn
    simp only [not_or, not_and, Decidable.not_not] at hn
    have := hn.2 (by decide)
    have e : (arityS 22).1 = 3 := by decide
    rw [e] at this; omega

theorem ir_so_p2 {l : List Node} {n : Node} {a : List Int} {v : V} {s : S} {b : Bool} {R : V → S → Prop} (hL : Ls s 1 v (a.map fun n => V.int .i64 n) a.length) (hs : s.h.get 0 = some (.row (eN n) 0 0))
    (hb : b = true ↔ (validOperandsS n.op a = false ∨ validImmS l n = false)) (hR : R (.int .i64 (finS l n a)) s) : ir_sortOf.p2 R (.ptr 0 0 0 3) v (.bool b) s := by
  refine ir_sortOf.p2_s fun _ => ?_
  unfold finS at hR
  cases b with
  | true =>
    rw [if_pos (hb.1 rfl)] at hR
    simpa using hR
  | false =>
    have hn : ¬ (validOperandsS n.op a = false ∨ validImmS l n = false) := fun h => by simpa using hb.2 h
    rw [if_neg hn] at hR
    have h22 : n.op = 22 → 1 < a.length := vo22 (by cases h : validOperandsS n.op a with | true => rfl | false => exact absurd (.inl h) hn)
    simp only [br_bool, Bool.false_eq_true, if_false]
    refine fld hs (Nat.le_refl _) (by decide) rfl ?_
    simp only [bin_eql, bo_some, br_bool, decide_eq_true_eq]
    split
    · rename_i h; rw [if_pos h] at hR; exact hR
    · rename_i h31
      rw [if_neg h31] at hR
      repeat' split
      all_goals refine ir_so_p3 hL hs h22 ?_
      all_goals simp_all

theorem ir_so_p1 {l : List Node} {i : Nat} {known : List Int} {n : Node} (hi : i ≤ l.length) (hik : i ≤ known.length) (hb : n.kids.length < 1073741824) (hlen : ∀ k, (l.getD k default).kids.length < 1073741824) {R : V → S → Prop}
    (hR : ∀ s, R (.int .i64 (match kidS i known n.kids with | none => 0 | some s => finS l n s)) s) :
    ∀ m j, n.kids.length - j = m → j ≤ n.kids.length → ∀ (a : List Int) (v : V) (s : S), a.length = j → (match kidS i known n.kids with | none => kidS i known (n.kids.drop j) = none | some s => kidS i known (n.kids.drop j) = some (s.drop j) ∧ a = s.take j) →
      (∀ k ∈ n.kids.take j, 0 ≤ k ∧ k < i) →
      Ls s 1 v (a.map fun n => V.int .i64 n) a.length → s.h.get 0 = some (.row (eN n) 0 0) → ¬ idOf v 0 →
      ir_sortOf.p1 R (eNodes l) (.int .i64 (i : Int)) (eInts known) (.ptr 0 0 0 3) v (eInts n.kids) (.int .i64 (n.kids.length : Int)) (.int .i64 (j : Int)) s := by
  intro m
  induction m with
  | zero =>
    intro j hm hj a v s ha hinv hkk hL hs hv
    obtain rfl : j = n.kids.length := by omega
    refine ir_sortOf.p1_s fun hw => ?_
    simp only [bin_lss, bo_some, br_bool, decide_eq_true_eq, Int.ofNat_lt, Nat.lt_irrefl, if_false]
    have hks : kidS i known n.kids = some a := by
      cases h : kidS i known n.kids with
      | none => rw [h] at hinv; simp [kidS] at hinv
      | some t =>
        rw [h] at hinv
        simp only [List.drop_length] at hinv
        rw [hinv.2, List.take_of_length_le (by rw [kidS_len h]; exact Nat.le_refl _)]
    have hR' : ∀ s, R (.int .i64 (finS l n a)) s := fun s => by have := hR s; rw [hks] at this; exact this
    refine ldk hs (Nat.le_refl _) (by decide) ?_
    refine (ir_validOperands_pu n a (by omega)).s rfl (.cons (Cv.agg (.refl (eN_cv n))).fz (.cons hL.ints .nil)) ?_
    simp only [un_not, bo_some, br_bool]
    cases hvo : validOperandsS n.op a with
    | false =>
      simp only [Bool.not_false, if_true]
      exact ir_so_p2 (l := l) hL hs (by simp [hvo]) (hR' s)
    | true =>
      simp only [Bool.not_true, Bool.false_eq_true, if_false]
      refine ldk hs (Nat.le_refl _) (by decide) ?_
      refine (ir_validImm_pu (l := l) (n := n) fun h25 => ?_).c (.cons (cv_nodes _) (.cons (Cv.agg (.refl (eN_cv n))) .nil)) ?_
      · have h0 : 0 < n.kids.length := by
          rw [← ha]
          rcases Nat.eq_zero_or_pos a.length with h | h
          · exfalso
            have : a = [] := by simpa using h
            subst this
            rw [h25] at hvo
            revert hvo; decide
          · exact h
        have hm0 : n.kids.getD 0 0 ∈ n.kids := by
          have : n.kids.getD 0 0 = n.kids[0] := by simp [List.getD, h0]
          rw [this]; exact List.getElem_mem _
        have := hkk (n.kids.getD 0 0) (by simpa using hm0)
        exact ⟨h0, this.1, by omega, hlen _⟩
      · simp only [un_not, bo_some]
        exact ir_so_p2 (l := l) hL hs (by simp [hvo]) (hR' s)
  | succ m ih =>
    intro j hm hj a v s ha hinv hkk hL hs hv
    have h1 : j < n.kids.length := by omega
    refine ir_sortOf.p1_s fun hw => ?_
    simp only [bin_lss, bo_some, br_bool, decide_eq_true_eq, Int.ofNat_lt]
    rw [if_pos h1]
    refine get_int h1 ?_
    simp only [bin_lss, bin_geq, bo_some, br_bool, decide_eq_true_eq]
    have hd := drop_getD n.kids j h1
    rw [show n.kids.getD j default = n.kids.getD j 0 from rfl] at hd
    generalize hkj : n.kids.getD j 0 = kj at hd ⊢
    have hbad : (kj < 0 ∨ (i : Int) ≤ kj ∨ known.getD kj.toNat 0 = 0) → R (.int .i64 0) s := by
      intro hc
      have hnone : kidS i known n.kids = none := by
        cases h : kidS i known n.kids with
        | none => rfl
        | some t =>
          rw [h] at hinv
          have := hinv.1
          rw [hd] at this
          unfold kidS at this
          rw [if_pos hc] at this
          simp at this
      have := hR s
      rw [hnone] at this
      exact this
    have hp5 : ∀ b : Bool, (b = true ↔ (kj < 0 ∨ (i : Int) ≤ kj ∨ known.getD kj.toNat 0 = 0)) → ir_sortOf.p5 R (eNodes l) (.int .i64 (i : Int)) (eInts known) (.ptr 0 0 0 3) v (.int .i64 kj) (eInts n.kids) (.int .i64 (n.kids.length : Int)) (.int .i64 (j : Int)) (.bool b) s := by
      intro b hb2
      refine ir_sortOf.p5_s fun _ => ?_
      cases b with
      | true => simpa using hbad (hb2.1 rfl)
      | false =>
        have hok : ¬ (kj < 0 ∨ (i : Int) ≤ kj ∨ known.getD kj.toNat 0 = 0) := fun h => by simpa using hb2.2 h
        simp only [br_bool, Bool.false_eq_true, if_false]
        refine get_inti (by omega) (by omega) ?_
        refine app_one (new := [.int .i64 (known.getD kj.toNat 0)]) hL hw rfl rfl rfl (by decide) (by omega) fun v' s' hw' hL' hK hid => ?_
        rw [bin_inc (by omega), bo_some]
        refine ih (j + 1) (by omega) (by omega) (a ++ [known.getD kj.toNat 0]) v' s' (by simp [ha]) ?_ ?_ ?_ (hK.get 0 _ hs hv) ?_
        · cases h : kidS i known n.kids with
          | none =>
            rw [h] at hinv
            simp only at hinv ⊢
            rw [hd] at hinv
            unfold kidS at hinv
            rw [if_neg hok] at hinv
            cases h2 : kidS i known (n.kids.drop (j + 1)) with
            | none => rfl
            | some t => rw [h2] at hinv; simp at hinv
          | some t =>
            rw [h] at hinv
            simp only at hinv ⊢
            obtain ⟨hi1, hi2⟩ := hinv
            rw [hd] at hi1
            unfold kidS at hi1
            rw [if_neg hok] at hi1
            have hlt : j < t.length := by rw [kidS_len h]; exact h1
            rw [drop_getD t j hlt] at hi1
            cases h2 : kidS i known (n.kids.drop (j + 1)) with
            | none => rw [h2] at hi1; simp at hi1
            | some u =>
              rw [h2] at hi1
              simp only [Option.map_some, Option.some.injEq, List.cons.injEq] at hi1
              refine ⟨by rw [hi1.2], ?_⟩
              rw [take_getD t j hlt, hi2, ← hi1.1]
        · intro k hk
          rw [take_getD n.kids j h1, List.mem_append] at hk
          rcases hk with hk | hk
          · exact hkk k hk
          · simp only [List.mem_singleton] at hk
            rw [hk, show n.kids.getD j default = n.kids.getD j 0 from rfl, hkj]; omega
        · rw [map_int_append]
          simpa using hL'
        · intro h
          rcases hid 0 h with h | h
          · exact hv h
          · have := hw.lt hs; omega
    split
    · rename_i hneg
      refine ir_sortOf.p4_s fun _ => ?_
      simp only [br_bool, if_true]
      exact hp5 true (by simp [hneg])
    · rename_i hneg
      refine ir_sortOf.p4_s fun _ => ?_
      simp only [br_bool, decide_eq_true_eq]
      split
      · rename_i hge
        exact hp5 true (by simp [hge])
      · rename_i hge
        refine get_inti (by omega) (by omega) ?_
        simp only [bin_eql, bo_some]
        exact hp5 _ (by simp [hneg]; omega)

theorem ir_sortOf_pu {l : List Node} {i : Nat} {known : List Int} (hi : i < l.length) (hik : i ≤ known.length) (hlen : ∀ k, (l.getD k default).kids.length < 1073741824) :
    Pu Pg F.ir_sortOf [eNodes l, .int .i64 (i : Int), eInts known] (.int .i64 (sortAt l i known)) := by
  refine Pu.fl ir_sortOf_k rfl (ir_sortOf_c (ir_sortOf.p0_s fun hw => ?_))
  rw [vIaddr_nodes hi, bo_some, load_lptrk (by simp), bo_some, bn_box]
  refine ⟨rfl, ?_⟩
  have hw1 := hw.new (.row (V.agg [(.int .i64 0), (.int .i64 0), .nils]).cells 0 0)
  have hrow : ((⟨.nil, 0⟩ : S).new (.row (V.agg [(.int .i64 0), (.int .i64 0), .nils]).cells 0 0)).h.get 0 = some (.row [(.int .i64 0), (.int .i64 0), .nils] 0 0) := S.get_new_self (s := ⟨.nil, 0⟩)
  generalize ((⟨.nil, 0⟩ : S).new (.row (V.agg [(.int .i64 0), (.int .i64 0), .nils]).cells 0 0)) = s1 at hw1 hrow ⊢
  show bs (vStore s1 3 (.ptr 0 0 0 3) (.agg (eN (l.getD i default)))) _
  generalize hn : l.getD i default = n
  have hkl : n.kids.length < 1073741824 := by rw [← hn]; exact hlen i
  rw [store_ptr (k := 3) (x := .agg (eN n)) hrow rfl rfl (okN n) (by decide), bs_some]
  have hw2 := hw1.put (ob := .row (setAt [(.int .i64 0), (.int .i64 0), .nils] 0 (V.agg (eN n)).cells) 0 0) hrow
  have hrow2 : (s1.put 0 (.row (setAt [(.int .i64 0), (.int .i64 0), .nils] 0 (V.agg (eN n)).cells) 0 0)).h.get 0 = some (.row (eN n) 0 0) := S.get_put_self
  generalize (s1.put 0 (.row (setAt [(.int .i64 0), (.int .i64 0), .nils] 0 (V.agg (eN n)).cells) 0 0)) = s2 at hw2 hrow2 ⊢
  refine fld hrow2 (Nat.le_refl _) (by decide) rfl ?_
  rw [vLen_eS, bo_some]
  refine ir_so_p1 (known := known) (n := n) (by omega) hik hkl hlen (fun s => ?_) n.kids.length 0 rfl (Nat.zero_le _) [] .nils s2 rfl ?_ (by simp) .nil hrow2 (by simp [idOf])
  · unfold sortAt; rw [hn]
  · cases h : kidS i known n.kids with
    | none => simpa using h
    | some t => simpa using h

/-! ### sorts, Sort -/
def sortsS (l : List Node) : Nat → List Int
  | 0 => []
  | n + 1 => sortsS l n ++ [sortAt l n (sortsS l n)]
theorem sortsS_len (l : List Node) (n : Nat) : (sortsS l n).length = n := by
  induction n with
  | zero => rfl
  | succ n ih => simp [sortsS, ih]
/-- The sorts found so far, zeros behind. -/
def padS (l : List Node) (i n : Nat) : List Int := sortsS l i ++ List.replicate (n - i) 0
theorem padS_len (l : List Node) (i n : Nat) (h : i ≤ n) : (padS l i n).length = n := by simp [padS, sortsS_len]; omega
/-- A node's sort looks at the sorts before it alone. -/
theorem kidS_pad {i : Nat} {known known' : List Int} (h : ∀ j, j < i → known.getD j 0 = known'.getD j 0) : ∀ ks, kidS i known ks = kidS i known' ks := by
  intro ks
  induction ks with
  | nil => rfl
  | cons k ks ih =>
    unfold kidS
    rw [ih]
    by_cases h1 : k < 0 ∨ (i : Int) ≤ k
    · rw [if_pos (by omega), if_pos (by omega)]
    · rw [h k.toNat (by omega)]
theorem sortAt_pad {l : List Node} {i : Nat} {known known' : List Int} (h : ∀ j, j < i → known.getD j 0 = known'.getD j 0) : sortAt l i known = sortAt l i known' := by
  unfold sortAt; rw [kidS_pad h]
theorem padS_get (l : List Node) (i n j : Nat) (h : j < i) : (padS l i n).getD j 0 = (sortsS l i).getD j 0 := by
  unfold padS
  simp only [List.getD_eq_getElem?_getD]
  rw [List.getElem?_append_left (by rw [sortsS_len]; exact h)]
theorem padS_set (l : List Node) (i n : Nat) (h : i < n) : (padS l i n).set i (sortAt l i (padS l i n)) = padS l (i + 1) n := by
  rw [sortAt_pad (known' := sortsS l i) fun j hj => padS_get l i n j hj]
  unfold padS
  rw [show n - i = (n - (i + 1)) + 1 by omega, List.replicate_succ, List.set_append_right _ _ (by rw [sortsS_len]; exact Nat.le_refl _), sortsS_len, Nat.sub_self, List.set_cons_zero]
  simp [sortsS]
theorem ir_sorts_p1 {l : List Node} (hb : l.length < 1073741824) (hlen : ∀ k, (l.getD k default).kids.length < 1073741824) {R : V → S → Prop} (hR : ∀ v s, Ls s 1 v ((sortsS l l.length).map fun n => V.int .i64 n) l.length → R v s) :
    ∀ m i, l.length - i = m → i ≤ l.length → ∀ v s, Ls s 1 v ((padS l i l.length).map fun n => V.int .i64 n) l.length → ir_sorts.p1 R (eNodes l) v (.int .i64 (l.length : Int)) (.int .i64 (i : Int)) s := by
  intro m
  induction m with
  | zero =>
    intro i hm hi v s hL
    obtain rfl : i = l.length := by omega
    refine ir_sorts.p1_s fun hw => ?_
    simp only [bin_lss, bo_some, br_bool, decide_eq_true_eq, Int.ofNat_lt, Nat.lt_irrefl, if_false]
    refine hR v s ?_
    simpa [padS] using hL
  | succ m ih =>
    intro i hm hi v s hL
    have h1 : i < l.length := by omega
    refine ir_sorts.p1_s fun hw => ?_
    simp only [bin_lss, bo_some, br_bool, decide_eq_true_eq, Int.ofNat_lt]
    rw [if_pos h1]
    refine (ir_sortOf_pu (known := padS l i l.length) h1 (by rw [padS_len l i _ hi]; exact hi) hlen).s rfl (.cons (cv_nodes _).fz (.cons (Cv.int _ _).fz (.cons hL.ints .nil))) ?_
    refine put_one hL hw h1 rfl rfl rfl fun s' hw' hL' _ => ?_
    rw [bin_inc (by omega), bo_some]
    refine ih (i + 1) (by omega) (by omega) v s' ?_
    rw [map_set_int, padS_set l i _ h1] at hL'
    exact hL'
theorem ir_sorts_pu {l : List Node} (hb : l.length < 1073741824) (hlen : ∀ k, (l.getD k default).kids.length < 1073741824) : Pu Pg F.ir_sorts [eNodes l] (eInts (sortsS l l.length)) := by
  refine Pu.fz ir_sorts_k (ir_sorts_c (ir_sorts.p0_s fun hw => ?_))
  rw [vLen_eS, bo_some]
  refine mk_one hw (Nat.le_refl _) (by decide) (by omega) fun v s' hw' hL _ _ => ?_
  rw [bo_some]
  refine ir_sorts_p1 hb hlen (fun v s hL => hL.ints) l.length 0 rfl (Nat.zero_le _) v s' ?_
  simpa [padS, sortsS] using hL

theorem sortAt_take {l : List Node} {i n : Nat} (h : i < n) (hn : n ≤ l.length) (known : List Int) : sortAt (l.take n) i known = sortAt l i known := by
  have hg : ∀ j, j < n → (l.take n).getD j default = l.getD j default := by
    intro j hj
    simp [List.getD, hj]
  unfold sortAt
  rw [hg i h]
  cases hk : kidS i known (l.getD i default).kids with
  | none => rfl
  | some s =>
    simp only
    have hv : validImmS (l.take n) (l.getD i default) = validImmS l (l.getD i default) ∨ (l.getD i default).op ≠ 25 ∨ (l.getD i default).kids = [] := by
      by_cases h25 : (l.getD i default).op = 25
      · cases hks : (l.getD i default).kids with
        | nil => exact .inr (.inr rfl)
        | cons a ks =>
          left
          have hm := kidS_mem hk a (by rw [hks]; exact List.mem_cons_self)
          unfold validImmS
          have : (l.getD i default).kids.getD 0 0 = a := by rw [hks]; rfl
          rw [this, hg a.toNat (by omega)]
      · exact .inr (.inl h25)
    unfold finS
    rcases hv with hv | hv | hv
    · rw [hv]
    · have : validImmS (l.take n) (l.getD i default) = validImmS l (l.getD i default) := by unfold validImmS; simp only [hv, if_false]
      rw [this]
    · rw [hv] at hk
      have hs : s = [] := by simpa [kidS] using hk.symm
      subst hs
      by_cases h25 : (l.getD i default).op = 25
      · have : validOperandsS (l.getD i default).op [] = false := by rw [h25]; decide
        rw [this]; simp
      · have : validImmS (l.take n) (l.getD i default) = validImmS l (l.getD i default) := by unfold validImmS; simp only [h25, if_false]
        rw [this]
theorem sortsS_take {l : List Node} {n : Nat} (hn : n ≤ l.length) : ∀ m, m ≤ n → sortsS (l.take n) m = sortsS l m := by
  intro m
  induction m with
  | zero => intro _; rfl
  | succ m ih =>
    intro h
    unfold sortsS
    rw [ih (by omega), sortAt_take (by omega) hn]
theorem sortsS_pre {l : List Node} : ∀ {m n : Nat}, m ≤ n → ∀ j, j < m → (sortsS l n).getD j 0 = (sortsS l m).getD j 0 := by
  intro m n h
  induction n with
  | zero => intro j hj; omega
  | succ n ih =>
    intro j hj
    by_cases hmn : m = n + 1
    · subst hmn; rfl
    · rw [← ih (by omega) j hj]
      simp only [sortsS, List.getD_eq_getElem?_getD]
      rw [List.getElem?_append_left (by rw [sortsS_len]; omega)]
/-- The sort of node i. -/
def sortS (l : List Node) (i : Int) : Int := if i < 0 ∨ (l.length : Int) ≤ i then 0 else (sortsS l l.length).getD i.toNat 0

theorem vSlice_take {α : Type} [Inhabited α] {enc : α → List V} {k : Nat} {l : List α} {n : Nat} (h0 : 0 < n) (hn : n ≤ l.length) : vSlice k (eS enc l) none (some (.int .i64 (n : Int))) = some (eL (l.flatMap enc) n) := by
  unfold eS
  obtain ⟨a, t, rfl⟩ : ∃ a t, l = a :: t := by cases l with | nil => simp at hn; omega | cons a t => exact ⟨a, t, rfl⟩
  obtain ⟨n, rfl⟩ : ∃ m, n = m + 1 := ⟨n - 1, by omega⟩
  simp only [List.length_cons] at hn
  simp only [List.length_cons, eL, vSlice, vBounds, natOf_nat]
  rw [show (Nat.ble 0 (n + 1) && Nat.ble (n + 1) (t.length + 1)) = true by simp; omega]
  simp only [cond_true]
  rw [show Nat.beq 0 (n + 1) = false from rfl]
  simp

theorem ir_Sort_pu {l : List Node} {i : Int} (hi : rng i) (hb : l.length < 1073741824) (hlen : ∀ k, (l.getD k default).kids.length < 1073741824) : Pu Pg F.ir_Sort [eNodes l, .int .i64 i] (.int .i64 (sortS l i)) := by
  refine Pu.fl ir_Sort_k rfl (ir_Sort_c (ir_Sort.p0_s fun hw => ?_))
  have hp1 : ∀ b : Bool, (b = true ↔ (i < 0 ∨ (l.length : Int) ≤ i)) → ir_Sort.p1 (fun v1 _ => v1 = .int .i64 (sortS l i)) (eNodes l) (.int .i64 i) (.bool b) ⟨.nil, 0⟩ := by
    intro b hb2
    refine ir_Sort.p1_s fun _ => ?_
    cases b with
    | true =>
      simp only [br_bool, if_true]
      unfold sortS; rw [if_pos (hb2.1 rfl)]
    | false =>
      have hn : ¬ (i < 0 ∨ (l.length : Int) ≤ i) := fun h => by simpa using hb2.2 h
      simp only [br_bool, Bool.false_eq_true, if_false]
      obtain ⟨j, rfl⟩ := Int.eq_ofNat_of_zero_le (show 0 ≤ i by omega)
      have hj : j < l.length := by omega
      show bo (bin .add (.int .i64 (j : Int)) (.int .i64 1)) _
      rw [bin_inc (by omega), bo_some, vSlice_take (by omega) hj, bo_some]
      refine (ir_sorts_pu (l := l.take (j + 1)) (by simp; omega) fun k => ?_).c (.cons (cv_take eN_cv l (j + 1) hj) .nil) ?_
      · by_cases hk : k < j + 1
        · simp only [List.getD_eq_getElem?_getD, List.getElem?_take, hk, if_true]
          have := hlen k
          simpa [List.getD_eq_getElem?_getD] using this
        · simp [List.getD_eq_getElem?_getD, List.getElem?_take, hk]; decide
      · have hlt : (l.take (j + 1)).length = j + 1 := by simp; omega
        rw [hlt, sortsS_take hj (j + 1) (Nat.le_refl _)]
        refine get_int (i := j) (by rw [sortsS_len]; omega) ?_
        show V.int .i64 _ = _
        unfold sortS
        rw [if_neg hn]
        show V.int .i64 _ = V.int .i64 ((sortsS l l.length).getD j 0)
        rw [sortsS_pre (m := j + 1) (n := l.length) hj j (by omega)]
  simp only [bin_lss, bo_some, br_bool, decide_eq_true_eq]
  split
  · rename_i h; exact hp1 true (by simp [h])
  · rename_i h
    simp only [vLen_eS, bo_some, bin_geq]
    exact hp1 _ (by simp [h])
end Go.Am.YtmjaimpkjjkliaaGreat
namespace Go.Am.YtmjaimpkjjkliaaGreat
open Go.Proofs
set_option linter.unusedVariables false

/-- The sort of node j, by the nodes before it. -/
def sortN (l : List Node) (j : Nat) : Int := sortAt l j (sortsS l j)
theorem sortsS_get {l : List Node} {n j : Nat} (h : j < n) : (sortsS l n).getD j 0 = sortN l j := by
  rw [sortsS_pre (m := j + 1) (by omega) j (by omega)]
  simp only [sortsS, List.getD_eq_getElem?_getD]
  rw [List.getElem?_append_right (by rw [sortsS_len]; exact Nat.le_refl _), sortsS_len]
  simp [sortN]
theorem sortS_nat {l : List Node} {j : Nat} (h : j < l.length) : sortS l (j : Int) = sortN l j := by
  unfold sortS
  rw [if_neg (by omega)]
  exact sortsS_get h
theorem sortN_kids {l : List Node} {j : Nat} (h : sortN l j ≠ 0) : ∀ k ∈ (l.getD j default).kids, 0 ≤ k ∧ k < j ∧ sortN l k.toNat ≠ 0 := by
  intro k hk
  unfold sortN sortAt at h
  cases hks : kidS j (sortsS l j) (l.getD j default).kids with
  | none => rw [hks] at h; simp at h
  | some s =>
    obtain ⟨h1, h2, h3⟩ := kidS_mem hks k hk
    refine ⟨h1, h2, ?_⟩
    rwa [sortsS_get (by omega)] at h3

def markKids (b : List Bool) : List Int → List Bool
  | [] => b
  | k :: ks => markKids (b.set k.toNat true) ks
/-- Nodes n - 1 to 0 mark their operands. -/
def marks (l : List Node) : Nat → List Bool → List Bool
  | 0, b => b
  | n + 1, b => marks l n (if b.getD n false then markKids b (l.getD n default).kids else b)
def listed (b : List Bool) (n : Nat) : List Int := ((List.range n).filter fun j => b.getD j false).map fun (j : Nat) => (j : Int)
def depsS (l : List Node) (i : Int) : List Int :=
  if sortS l i = 0 then [] else listed (marks l (i.toNat + 1) ((List.replicate (i.toNat + 1) false).set i.toNat true)) (i.toNat + 1)

theorem markKids_len (b : List Bool) (ks : List Int) : (markKids b ks).length = b.length := by
  induction ks generalizing b with
  | nil => rfl
  | cons k ks ih => simp [markKids, ih]
theorem markKids_get (ks : List Int) : ∀ (b : List Bool) (j : Nat), (markKids b ks).getD j false = true → b.getD j false = true ∨ ∃ k ∈ ks, k.toNat = j := by
  induction ks with
  | nil => intro b j h; exact .inl h
  | cons k ks ih =>
    intro b j h
    rcases ih _ j h with h1 | ⟨k', hk', e⟩
    · by_cases hj : k.toNat = j
      · exact .inr ⟨k, List.mem_cons_self, hj⟩
      · left
        simpa [List.getD, List.getElem?_set, hj] using h1
    · exact .inr ⟨k', List.mem_cons_of_mem _ hk', e⟩

theorem map_set_bool (l : List Bool) (i : Nat) (x : Bool) : (l.map V.bool).set i (.bool x) = (l.set i x).map V.bool := by rw [List.map_set]

/-- Only well-formed nodes are marked. -/
def MOk (l : List Node) (n : Nat) (b : List Bool) : Prop := b.length = n ∧ ∀ j, b.getD j false = true → sortN l j ≠ 0
theorem MOk.kids {l : List Node} {n j : Nat} {b : List Bool} (h : MOk l n b) (hj : b.getD j false = true) : MOk l n (markKids b (l.getD j default).kids) := by
  refine ⟨by rw [markKids_len]; exact h.1, fun i hi => ?_⟩
  rcases markKids_get _ _ _ hi with h1 | ⟨k, hk, rfl⟩
  · exact h.2 i h1
  · exact (sortN_kids (h.2 j hj) k hk).2.2

theorem ir_de_p5 {l : List Node} {R : V → S → Prop} {n : Nat} {cnt k : Int} {v : V} {ks : List Int} (hb : ks.length < 1073741824) (hks : ∀ x ∈ ks, 0 ≤ x ∧ x < (n : Int)) (hn : n < 1073741824) {X : Nat → Prop} :
    ∀ m j, ks.length - j = m → j ≤ ks.length → ∀ (b : List Bool) (s : S), b.length = n → Ls s 1 v (b.map V.bool) n → WF s →
      (∀ s', WF s' → Ls s' 1 v ((markKids b (ks.drop j)).map V.bool) n → ir_Dependencies.p4 R (eNodes l) v (.int .i64 cnt) (.int .i64 k) s') →
      ir_Dependencies.p5 R (eNodes l) v (.int .i64 cnt) (.int .i64 k) (eInts ks) (.int .i64 (ks.length : Int)) (.int .i64 (j : Int)) s := by
  intro m
  induction m with
  | zero =>
    intro j hm hj b s hbl hL hw hk
    obtain rfl : j = ks.length := by omega
    refine ir_Dependencies.p5_s fun hw => ?_
    simp only [bin_lss, bo_some, br_bool, decide_eq_true_eq, Int.ofNat_lt, Nat.lt_irrefl, if_false]
    exact hk s hw (by simpa [markKids] using hL)
  | succ m ih =>
    intro j hm hj b s hbl hL hw hk
    have h1 : j < ks.length := by omega
    refine ir_Dependencies.p5_s fun hw => ?_
    simp only [bin_lss, bo_some, br_bool, decide_eq_true_eq, Int.ofNat_lt]
    rw [if_pos h1]
    refine get_int h1 ?_
    have hd := drop_getD ks j h1
    have hmem : ks.getD j 0 ∈ ks := by
      have : ks.getD j 0 = ks[j] := by simp [List.getD, h1]
      rw [this]; exact List.getElem_mem _
    obtain ⟨h0, hlt⟩ := hks _ hmem
    rw [show ks.getD j default = ks.getD j 0 from rfl] at hd
    generalize ks.getD j 0 = x at hd h0 hlt ⊢
    obtain ⟨y, rfl⟩ := Int.eq_ofNat_of_zero_le h0
    refine put_one (x := .bool true) hL hw (by omega) rfl rfl rfl fun s' hw' hL' _ => ?_
    show bo (bin .add (.int .i64 (j : Int)) (.int .i64 1)) _
    rw [bin_inc (by omega), bo_some]
    rw [map_set_bool] at hL'
    refine ih (j + 1) (by omega) (by omega) _ s' (by simpa using hbl) hL' hw' fun s'' hw'' hL'' => hk s'' hw'' ?_
    rw [hd]
    exact hL''

theorem ir_de_p2 {R : V → S → Prop} {b : List Bool} (hb : b.length < 1073741824) {v : V} (hR : ∀ w s, Ls s 1 w ((listed b b.length).map fun n => V.int .i64 n) (listed b b.length).length → R w s) :
    ∀ m j, b.length - j = m → j ≤ b.length → ∀ (w : V) (s : S), Ls s 1 v (b.map V.bool) b.length → Ls s 1 w ((listed b j).map fun n => V.int .i64 n) (listed b j).length → (∀ i, idOf v i → ¬ idOf w i) →
      ir_Dependencies.p2 R v w (.int .i64 (b.length : Int)) (.int .i64 (j : Int)) s := by
  intro m
  induction m with
  | zero =>
    intro j hm hj w s hL hW hd
    obtain rfl : j = b.length := by omega
    refine ir_Dependencies.p2_s fun hw => ?_
    simp only [bin_lss, bo_some, br_bool, decide_eq_true_eq, Int.ofNat_lt, Nat.lt_irrefl, if_false]
    exact hR w s hW
  | succ m ih =>
    intro j hm hj w s hL hW hd
    have h1 : j < b.length := by omega
    refine ir_Dependencies.p2_s fun hw => ?_
    simp only [bin_lss, bo_some, br_bool, decide_eq_true_eq, Int.ofNat_lt]
    rw [if_pos h1]
    refine get_one hL h1 (c := .bool (b.getD j false)) (by simp [List.getD, h1]) ?_
    have hlisted : listed b (j + 1) = if b.getD j false then listed b j ++ [(j : Int)] else listed b j := by
      unfold listed
      rw [List.range_succ, List.filter_append, List.map_append, List.filter_cons, List.filter_nil]
      generalize b.getD j false = c
      cases c <;> simp
    have hll : (listed b j).length ≤ j := by
      unfold listed
      rw [List.length_map]
      exact Nat.le_trans (List.length_filter_le _ _) (by simp)
    rw [br_bool]
    cases hbj : b.getD j false with
    | true =>
      rw [hbj] at hlisted
      simp only [if_true] at hlisted ⊢
      refine app_one (new := [.int .i64 (j : Int)]) hW hw rfl rfl rfl (by decide) (by omega) fun w' s' hw' hW' hK hid => ?_
      refine ir_Dependencies.p3_s fun _ => ?_
      rw [bin_inc (by omega), bo_some]
      refine ih (j + 1) (by omega) (by omega) w' s' (hL.keep hK fun i hi hc => hd i hi hc) ?_ fun i hi hc => ?_
      · rw [hlisted, map_int_append]; simpa using hW'
      · rcases hid i hc with h | h
        · exact hd i hi h
        · rcases hL.2 with ⟨rfl, _⟩ | ⟨id, ep, wr, rfl, hg, _⟩
          · exact hi
          · cases hi
            have := hw.lt hg; omega
    | false =>
      rw [hbj] at hlisted
      simp only [Bool.false_eq_true, if_false] at hlisted ⊢
      refine ir_Dependencies.p3_s fun _ => ?_
      rw [bin_inc (by omega), bo_some]
      exact ih (j + 1) (by omega) (by omega) w s hL (by rw [hlisted]; exact hW) hd

theorem ir_de_loop {l : List Node} {n : Nat} (hn : n ≤ l.length) (hb : l.length < 1073741824) (hlen : ∀ k, (l.getD k default).kids.length < 1073741824) {R : V → S → Prop} {v : V} :
    ∀ k, k ≤ n → ∀ (b : List Bool) (s : S) (cnt : Nat), MOk l n b → cnt + k ≤ n → Ls s 1 v (b.map V.bool) n →
      (∀ w s, Ls s 1 w ((listed (marks l k b) n).map fun n => V.int .i64 n) (listed (marks l k b) n).length → R w s) →
      ir_Dependencies.p1 R (eNodes l) v (.int .i64 (cnt : Int)) (.int .i64 ((k : Int) - 1)) s := by
  intro k
  induction k with
  | zero =>
    intro hk b s cnt hm hc hL hR
    refine ir_Dependencies.p1_s fun hw => ?_
    simp only [bin_geq, bo_some, br_bool, decide_eq_true_eq]
    rw [if_neg (by omega)]
    refine mk_one (n := 0) (c := cnt) hw (by omega) (by decide) (by omega) fun w s' hw' hW hK hid => ?_
    rw [hL.len, bo_some]
    have hbl := hm.1
    subst hbl
    refine ir_de_p2 (by omega) (fun w s h => hR w s (by simpa [marks] using h)) b.length 0 rfl (Nat.zero_le _) w s' (hL.keep hK fun _ _ h => h) (by simpa [listed] using hW) fun i hi hc2 => ?_
    have h1 := hid i hc2
    rcases hL.2 with ⟨rfl, _⟩ | ⟨id, ep, wr, rfl, hg, _⟩
    · exact hi
    · cases hi
      have := hw.lt hg; omega
  | succ k ih =>
    intro hk b s cnt hm hc hL hR
    have hcast : (((k + 1 : Nat) : Int) - 1) = (k : Int) := by omega
    rw [hcast]
    have hbl := hm.1
    refine ir_Dependencies.p1_s fun hw => ?_
    simp only [bin_geq, bo_some, br_bool, decide_eq_true_eq]
    rw [if_pos (by omega)]
    have hkb : k < b.length := by omega
    refine get_one hL (i := k) (by omega) (c := .bool (b.getD k false)) (by simp [List.getD, hkb]) ?_
    simp only [un_not, bo_some, br_bool]
    have hp4 : ∀ (b' : List Bool) (cnt' : Nat) s', MOk l n b' → cnt' + k ≤ n → Ls s' 1 v (b'.map V.bool) n → marks l (k + 1) b = marks l k b' → ir_Dependencies.p4 R (eNodes l) v (.int .i64 (cnt' : Int)) (.int .i64 (k : Int)) s' := by
      intro b' cnt' s' hm' hc' hL' he
      refine ir_Dependencies.p4_s fun _ => ?_
      rw [bin_sub (by omega) (by omega), bo_some]
      exact ih (by omega) b' s' cnt' hm' hc' hL' (by rw [← he]; exact hR)
    cases hbk : b.getD k false with
    | false =>
      simp only [Bool.not_false, if_true]
      exact hp4 b cnt s hm (by omega) hL (by simp only [marks, hbk]; rfl)
    | true =>
      simp only [Bool.not_true, Bool.false_eq_true, if_false]
      rw [bin_inc (by omega), bo_some, vIaddr_nodes (show k < l.length by omega)]
      simp only [bo_some, vFaddr_lptr, List.drop_succ_cons, List.drop_zero, load_lptr', vLen_eS]
      have hs := hm.2 k hbk
      refine ir_de_p5 (l := l) (n := n) (X := fun _ => False) (hlen k) (fun x hx => ?_) (by omega) _ 0 rfl (Nat.zero_le _) b s hbl hL hw fun s' hw' hL' => ?_
      · have := sortN_kids hs x hx; omega
      · rw [List.drop_zero] at hL'
        exact hp4 _ (cnt + 1) s' (hm.kids hbk) (by omega) hL' (by simp only [marks, hbk]; rfl)

theorem ir_Dependencies_l {l : List Node} {i : Int} (hi : rng i) (hb : l.length < 1073741824) (hlen : ∀ k, (l.getD k default).kids.length < 1073741824) :
    C Pg F.ir_Dependencies [eNodes l, .int .i64 i] ⟨.nil, 0⟩ fun v1 s1 => Ls s1 1 v1 ((depsS l i).map fun n => V.int .i64 n) (depsS l i).length := by
  refine ir_Dependencies_c (ir_Dependencies.p0_s fun hw => ?_)
  refine (ir_Sort_pu hi hb hlen).c (.cons (cv_nodes _) (.cons (Cv.int _ _) .nil)) ?_
  simp only [bin_eql, bo_some, br_bool, decide_eq_true_eq]
  split
  · rename_i h
    unfold depsS; rw [if_pos h]
    exact Ls.nil
  · rename_i h
    have hr : 0 ≤ i ∧ i < l.length := by
      unfold sortS at h
      split at h
      · exact absurd rfl h
      · omega
    obtain ⟨j, rfl⟩ := Int.eq_ofNat_of_zero_le hr.1
    have hj : j < l.length := by omega
    show bo (bin .add (.int .i64 (j : Int)) (.int .i64 1)) _
    rw [bin_inc (by omega), bo_some]
    refine mk_one hw (Nat.le_refl _) (by decide) (by omega) fun v s1 hw1 hL _ _ => ?_
    refine put_one (i := j) (x := .bool true) hL hw1 (by omega) rfl rfl rfl fun s2 hw2 hL2 _ => ?_
    have hsj : sortN l j ≠ 0 := by rw [← sortS_nat hj]; exact h
    have e0 : List.replicate (j + 1) (V.bool false) = (List.replicate (j + 1) false).map V.bool := by simp
    rw [e0, map_set_bool] at hL2
    have := ir_de_loop (l := l) (n := j + 1) (R := fun v1 s1 => Ls s1 1 v1 ((depsS l (j : Int)).map fun n => V.int .i64 n) (depsS l (j : Int)).length) (by omega) hb hlen (j + 1) (Nat.le_refl _) _ s2 0 ⟨by simp, fun i hi => ?_⟩ (by omega) hL2 fun w s hW => ?_
    · rw [show (((j + 1 : Nat) : Int) - 1) = (j : Int) by omega] at this
      exact this
    · by_cases hij : i = j
      · subst hij; exact hsj
      · rw [List.getD_eq_getElem?_getD, List.getElem?_set_ne (fun e => hij e.symm)] at hi
        simp [List.getElem?_replicate] at hi
        split at hi <;> simp at hi
    · have hd : depsS l (j : Int) = listed (marks l (j + 1) ((List.replicate (j + 1) false).set j true)) (j + 1) := by
        unfold depsS; rw [if_neg h]; rfl
      rw [hd]
      exact hW
theorem ir_Dependencies_pu {l : List Node} {i : Int} (hi : rng i) (hb : l.length < 1073741824) (hlen : ∀ k, (l.getD k default).kids.length < 1073741824) : Pu Pg F.ir_Dependencies [eNodes l, .int .i64 i] (eInts (depsS l i)) :=
  Pu.fz ir_Dependencies_k ((ir_Dependencies_l hi hb hlen).mono fun _ _ h => Ls.ints h)
theorem ir_Dependencies_pn {l : List Node} {i : Int} (hi : rng i) (hb : l.length < 1073741824) (hlen : ∀ k, (l.getD k default).kids.length < 1073741824) : Pn Pg F.ir_Dependencies [eNodes l, .int .i64 i] (eInts (depsS l i)) :=
  Pn.of ir_Dependencies_k.callable ((ir_Dependencies_l hi hb hlen).mono fun _ _ h => Ls.intsN h)
end Go.Am.YtmjaimpkjjkliaaGreat
