/- Chapter 7, the reference: a node's sort. -/
import Derived.Test.YtmjaimpkjjkliaaKe
namespace Go.Am.Ytmjaimpkjjkliaa
open Go.Proofs
set_option linter.unusedVariables false

theorem vi_eq {l : List Node} {n : Node} (h : n.op ≠ 25) : validImmS l n = validImmR n.op n.imm := by
  unfold validImmS validImmR maxImmS
  rw [Bool.eq_iff_iff]
  repeat' split
  all_goals (try simp_all)
  all_goals omega

/-- What is known of the loop that a loop's result names. -/
structure LoopOk (l : List Node) (n : Node) : Prop where
  kid : KidOk l n
  odd : (l.getD (n.kids.getD 0 0).toNat default).kids.length % 2 = 1
  three : 3 ≤ (l.getD (n.kids.getD 0 0).toNat default).kids.length
  few : lv (l.getD (n.kids.getD 0 0).toNat default).kids.length ≤ 16

def arBad (op : Int) (k : List Int) : Prop := (arityS op).2 = false ∨ (0 ≤ (arityS op).1 ∧ (arityS op).1 ≠ k.length)
theorem vo_bad {op : Int} {k : List Int} (h : arBad op k) : validOperandsS op k = false := by unfold arBad at h; unfold validOperandsS; rw [if_pos h]
theorem len1 {k : List Int} (h : k.length = 1) : ∃ a, k = [a] := by match k, h with | [a], _ => exact ⟨a, rfl⟩
theorem len2 {k : List Int} (h : k.length = 2) : ∃ a b, k = [a, b] := by match k, h with | [a, b], _ => exact ⟨a, b, rfl⟩
theorem len3 {k : List Int} (h : k.length = 3) : ∃ a b c, k = [a, b, c] := by match k, h with | [a, b, c], _ => exact ⟨a, b, c, rfl⟩
theorem ar_len {op m : Int} {k : List Int} (h : ¬ arBad op k) (ha : arityS op = (m, true)) (hm : 0 ≤ m) : (k.length : Int) = m := by
  unfold arBad at h
  rw [ha] at h
  simp only [not_or, not_and, Decidable.not_not] at h
  exact (h.2 hm).symm
/-- A sort, where the immediate is in range. -/
theorem finS_of {l : List Node} {n : Node} {k : List Int} (h25 : n.op ≠ 25) (hv : validImmR n.op n.imm = true) : finS l n k = if validOperandsS n.op k = false then 0 else
    if n.op = 31 then 3 else if n.op = 26 ∨ n.op = 27 ∨ n.op = 28 ∨ n.op = 29 ∨ n.op = 30 then 2 else if n.op = 22 then k.getD 1 0 else if n.op = 3 then (if n.imm.tmod 16 = 0 then 2 else 1) else 1 := by
  unfold finS
  rw [vi_eq h25, hv]
  simp only [Bool.true_eq_false, or_false, h25, if_false]

theorem rd1 {h : Heap} {a : Int} {l : List Int} {k : V → Prop} (hk : k (.int .i64 a)) : bo (vIaddr 1 (eInts (a :: l)) (.int .i64 0)) fun y => bo (loadAt h none y) k := get_int (i := 0) (by simp) hk
theorem rd2 {h : Heap} {a b : Int} {l : List Int} {k : V → Prop} (hk : k (.int .i64 b)) : bo (vIaddr 1 (eInts (a :: b :: l)) (.int .i64 1)) fun y => bo (loadAt h none y) k := get_int (i := 1) (by simp) hk
theorem rd3 {h : Heap} {a b c : Int} {l : List Int} {k : V → Prop} (hk : k (.int .i64 c)) : bo (vIaddr 1 (eInts (a :: b :: c :: l)) (.int .i64 2)) fun y => bo (loadAt h none y) k := get_int (i := 2) (by simp) hk

theorem rf_sortIf {s : S} {b : Bool} {m : Int} {Q : V → S → Prop} (h : Q (.int .i64 (if b = true then m else 0)) s) : C Pg F.fullingref7_sortIf [.bool b, .int .i64 m] s Q :=
  (fullingref7_sortIf_pu b m).c (.cons (.bool _) (.cons (.int _ _) .nil)) h

/-- The last part of a list, as an argument. -/
theorem vSlice_drop {l : List Int} {i : Nat} (h : i ≤ l.length) : ∃ v, vSlice 1 (eInts l) (some (.int .i64 (i : Int))) none = some v ∧ Cv v (eInts (l.drop i)) := by
  unfold eInts eS
  cases l with
  | nil =>
    have : i = 0 := by simpa using h
    subst this
    exact ⟨.emp, rfl, .emp⟩
  | cons a l =>
    simp only [List.length_cons, eL, vSlice, vBounds, natOf_nat]
    have hle : (Nat.ble i (l.length + 1) && Nat.ble (l.length + 1) (l.length + 1)) = true := by simp; simpa using h
    rw [hle]
    simp only [cond_true]
    cases hb : Nat.beq i (l.length + 1) with
    | true =>
      have := Nat.eq_of_beq_eq_true hb
      subst this
      refine ⟨.emp, rfl, ?_⟩
      rw [show (a :: l).drop (l.length + 1) = [] by simp]
      exact .emp
    | false =>
      have hne := Nat.ne_of_beq_eq_false hb
      have hlt : i < (a :: l).length := by simp at h ⊢; omega
      refine ⟨_, rfl, ?_⟩
      have hd : ((a :: l).flatMap e1).drop (i * 1) = ((a :: l).drop i).flatMap e1 := by
        rw [flat_drop (α := Int) e1_len (a :: l) i hlt, drop_getD (a :: l) i hlt]; rfl
      rw [hd]
      have hlen : l.length + 1 - i = ((a :: l).drop i).length := by simp
      rw [hlen]
      cases hx : (a :: l).drop i with
      | nil => simp at hx; simp at hlt; omega
      | cons b t => exact .lit (.refl fun v hv => by obtain ⟨a, _, ha⟩ := List.mem_flatMap.1 hv; exact e1_cv a v ha)

/-- The middle of a list, as an argument. -/
theorem vSlice_mid {l : List Int} {i j : Nat} (h : i ≤ j) (hj : j ≤ l.length) : ∃ v, vSlice 1 (eInts l) (some (.int .i64 (i : Int))) (some (.int .i64 (j : Int))) = some v ∧ Cv v (eInts ((l.drop i).take (j - i))) := by
  unfold eInts eS
  cases l with
  | nil =>
    have : j = 0 := by simpa using hj
    subst this
    have : i = 0 := by omega
    subst this
    exact ⟨.emp, rfl, .emp⟩
  | cons a l =>
    simp only [List.length_cons, eL, vSlice, vBounds, natOf_nat]
    have hle : (Nat.ble i j && Nat.ble j (l.length + 1)) = true := by simp; exact ⟨h, by simpa using hj⟩
    rw [hle]
    simp only [cond_true]
    cases hb : Nat.beq i j with
    | true =>
      have := Nat.eq_of_beq_eq_true hb
      subst this
      refine ⟨.emp, rfl, ?_⟩
      rw [show ((a :: l).drop i).take (i - i) = [] by simp]
      exact .emp
    | false =>
      have hne := Nat.ne_of_beq_eq_false hb
      have hlt : i < (a :: l).length := by simp at hj ⊢; omega
      refine ⟨_, rfl, ?_⟩
      have hd : ((a :: l).flatMap e1).drop (i * 1) = ((a :: l).drop i).flatMap e1 := by
        rw [flat_drop (α := Int) e1_len (a :: l) i hlt, drop_getD (a :: l) i hlt]; rfl
      rw [hd]
      have := cv_take e1_cv ((a :: l).drop i) (j - i) (by simp at hj ⊢; omega)
      obtain ⟨m, hm⟩ : ∃ m, j - i = m + 1 := ⟨j - i - 1, by omega⟩
      rw [hm] at this ⊢
      exact this

theorem rf_av {s : S} {v : V} {t : List Int} {Q : V → S → Prop} (hv : Cv v (eInts t)) (hb : t.length < 1073741824) (h : Q (.bool (t.all fun x => decide (x = 1))) s) : C Pg F.fullingref7_allValues [v] s Q :=
  (fullingref7_allValues_pu hb).c (.cons hv .nil) h

theorem all_iff {l : List Int} : (l.all fun x => decide (x = 1)) = true ↔ ∀ i, i < l.length → l.getD i 0 = 1 := by
  rw [List.all_eq_true]
  constructor
  · intro h i hi
    have := h l[i] (List.getElem_mem _)
    simpa [List.getD, hi] using this
  · intro h x hx
    obtain ⟨i, hi, rfl⟩ := List.mem_iff_getElem.1 hx
    have := h i hi
    simpa [List.getD, hi] using this
theorem match_iff : ∀ {k w : List Int}, k.length = w.length → (matchS k w = true ↔ ∀ i, i < k.length → k.getD i 0 = w.getD i 0) := by
  intro k
  induction k with
  | nil => intro w h; simp [matchS]
  | cons a k ih =>
    intro w h
    cases w with
    | nil => simp at h
    | cons b w =>
      simp only [matchS, Bool.and_eq_true, decide_eq_true_eq]
      rw [ih (by simpa using h)]
      constructor
      · rintro ⟨rfl, h2⟩ i hi
        cases i with
        | zero => rfl
        | succ i => simpa using h2 i (by simpa using hi)
      · intro h2
        refine ⟨by simpa using h2 0 (by simp), fun i hi => ?_⟩
        simpa using h2 (i + 1) (by simpa using hi)
theorem loopSorts_get {n i : Nat} (h : i < n) : (loopSortsS n).getD i 0 = if i = lv n + 1 then 2 else if i = 0 then 2 else 1 := by
  unfold loopSortsS
  simp only [List.getD_eq_getElem?_getD, List.getElem?_set, List.length_set, List.length_replicate, List.getElem?_replicate]
  by_cases h1 : lv n + 1 = i
  · subst h1; simp [h]
  · rw [if_neg h1, if_neg (show ¬ i = lv n + 1 from fun e => h1 e.symm)]
    by_cases h0 : 0 = i
    · subst h0; simp [h]
    · rw [if_neg h0, if_neg (show ¬ i = 0 from fun e => h0 e.symm), if_pos h]; rfl
/-- A loop's operands. -/
theorem loop_match {k : List Int} (h3 : 3 ≤ k.length) (ho : k.length % 2 = 1) :
    matchS k (loopSortsS k.length) = (decide (k.getD 0 0 = 2) && (((k.drop 1).take (k.length / 2)).all fun x => decide (x = 1)) && decide (k.getD (k.length / 2 + 1) 0 = 2) && ((k.drop (k.length / 2 + 2)).all fun x => decide (x = 1))) := by
  have hlv : lv k.length = k.length / 2 := by unfold lv; omega
  have hll : k.length = (loopSortsS k.length).length := by simp [loopSortsS]
  rw [Bool.eq_iff_iff, match_iff hll]
  simp only [Bool.and_eq_true, decide_eq_true_eq, all_iff]
  have g1 : ∀ i, ((k.drop 1).take (k.length / 2)).getD i 0 = if i < k.length / 2 then k.getD (1 + i) 0 else 0 := by
    intro i
    simp only [List.getD_eq_getElem?_getD, List.getElem?_take, List.getElem?_drop]
    split <;> rfl
  have g2 : ∀ i, (k.drop (k.length / 2 + 2)).getD i 0 = k.getD (k.length / 2 + 2 + i) 0 := by
    intro i
    simp only [List.getD_eq_getElem?_getD, List.getElem?_drop]
  constructor
  · intro h
    refine ⟨⟨⟨?_, fun i hi => ?_⟩, ?_⟩, fun i hi => ?_⟩
    · have := h 0 (by omega)
      rw [loopSorts_get (by omega)] at this
      simpa using this
    · simp at hi
      rw [g1, if_pos (by omega), h (1 + i) (by omega), loopSorts_get (by omega), if_neg (by omega), if_neg (by omega)]
    · rw [h _ (by omega), loopSorts_get (by omega), if_pos (by omega)]
    · simp at hi
      rw [g2, h _ (by omega), loopSorts_get (by omega), if_neg (by omega), if_neg (by omega)]
  · rintro ⟨⟨⟨h0, h1⟩, h2⟩, h4⟩ i hi
    rw [loopSorts_get hi, hlv]
    split
    · rename_i e; rw [e]; exact h2
    · split
      · rename_i e; rw [e]; exact h0
      · rcases Nat.lt_or_ge (k.length / 2 + 1) i with hc | hc
        · have := h4 (i - (k.length / 2 + 2)) (by simp; omega)
          rw [g2, show k.length / 2 + 2 + (i - (k.length / 2 + 2)) = i by omega] at this
          exact this
        · have := h1 (i - 1) (by simp; omega)
          rw [g1, if_pos (by omega), show 1 + (i - 1) = i by omega] at this
          exact this

theorem vo_fix {op : Int} {k : List Int} (h : ¬ arBad op k) (h31 : op ≠ 31) (h30 : op ≠ 30) (h22 : op ≠ 22) : validOperandsS op k = matchS k (operandSortsS op) := by
  unfold arBad at h
  unfold validOperandsS
  rw [if_neg h, if_neg h31, if_neg h30, if_neg fun e => h22 e.1]
theorem vo_30 {op : Int} {k : List Int} (h : ¬ arBad op k) (h30 : op = 30) : validOperandsS op k = (decide (1 ≤ k.length) && decide (k.length ≤ 7) && decide (k.getD 0 0 = 2) && (k.drop 1).all (fun x => decide (x = 1))) := by
  unfold arBad at h
  unfold validOperandsS
  rw [if_neg h, if_neg (by omega), if_pos h30]
theorem vo_31 {op : Int} {k : List Int} (h : ¬ arBad op k) (h31 : op = 31) : validOperandsS op k = (decide (3 ≤ k.length) && decide (k.length % 2 = 1) && decide (lv k.length ≤ 16) && matchS k (loopSortsS k.length)) := by
  unfold arBad at h
  unfold validOperandsS
  rw [if_neg h, if_pos h31]
theorem rf_ns_p4t {l : List Node} {n : Node} {k : List Int} {s : S} (h : finS l n k = 0) : fullingref7_nodeSort.p4 (fun v1 _ => v1 = .int .i64 (finS l n k)) (eNodes l) (eInts k) (.ptr 0 0 0 3) (.bool true) s := by
  refine fullingref7_nodeSort.p4_s fun _ => ?_
  rw [br_bool, if_pos rfl]
  show _ = _
  rw [h]

/-- The last operations: calls, loops, and all that have values only. -/
theorem rf_ns_p8 {l : List Node} {n : Node} {k : List Int} {s : S} (hb : k.length < 1073741824) (hs : s.h.get 0 = some (.row (eN n) 0 0)) (har : ¬ arBad n.op k) (hv : validImmR n.op n.imm = true)
    (hno : n.op ≠ 3 ∧ n.op ≠ 26 ∧ n.op ≠ 22 ∧ n.op ≠ 23 ∧ n.op ≠ 24 ∧ n.op ≠ 25) (b : Bool) (hb2 : b = true ↔ (n.op = 27 ∨ n.op = 29)) :
    fullingref7_nodeSort.p8 (fun v1 _ => v1 = .int .i64 (finS l n k)) (eInts k) (.int .i64 n.op) (.bool b) s := by
  obtain ⟨n3, n26, n22, n23, n24, n25⟩ := hno
  have hf := finS_of (l := l) (k := k) n25 hv
  refine fullingref7_nodeSort.p8_s fun _ => ?_
  cases b with
  | true =>
    have ho := hb2.1 rfl
    have hl : k.length = 2 := by
      have := ar_len (m := 2) har (by rcases ho with h | h <;> rw [h] <;> decide) (by decide)
      omega
    obtain ⟨a, c, rfl⟩ := len2 hl
    have hvo : validOperandsS n.op [a, c] = (decide (a = 2) && decide (c = 1)) := by
      rw [vo_fix har (by omega) (by omega) n22]
      have : operandSortsS n.op = [2, 1] := by unfold operandSortsS; rw [if_neg n22, if_pos (by omega)]
      rw [this]; simp [matchS]
    rw [hvo, if_neg (show ¬ n.op = 31 by omega), if_pos (show n.op = 26 ∨ n.op = 27 ∨ n.op = 28 ∨ n.op = 29 ∨ n.op = 30 by omega)] at hf
    rw [br_bool, if_pos rfl]
    refine rd1 ?_
    simp only [bin_eql, bo_some, br_bool, decide_eq_true_eq]
    have k9 : ∀ b : Bool, b = (decide (a = 2) && decide (c = 1)) → fullingref7_nodeSort.p9 (fun v1 _ => v1 = .int .i64 (finS l n [a, c])) (.bool b) s := by
      intro b hb
      refine fullingref7_nodeSort.p9_s fun _ => rf_sortIf ?_
      show _ = _
      rw [hf, ← hb]; cases b <;> rfl
    split
    · rename_i h
      refine rd2 ?_
      simp only [bin_eql, bo_some]
      exact k9 _ (by simp [h])
    · rename_i h
      exact k9 _ (by simp [h])
  | false =>
    have ho : ¬ (n.op = 27 ∨ n.op = 29) := fun h => by simpa using hb2.2 h
    rw [br_bool, if_neg (by simp), bin_eql, bo_some, br_bool]
    split
    · rename_i h28
      have h28 : n.op = 28 := by simpa using h28
      have hl : k.length = 3 := by
        have := ar_len (m := 3) har (by rw [h28]; decide) (by decide)
        omega
      obtain ⟨a, c, d, rfl⟩ := len3 hl
      have hvo : validOperandsS n.op [a, c, d] = (decide (a = 2) && decide (c = 1) && decide (d = 1)) := by
        rw [vo_fix har (by omega) (by omega) n22]
        have : operandSortsS n.op = [2, 1, 1] := by rw [h28]; decide
        rw [this]; simp [matchS, Bool.and_assoc]
      rw [hvo, if_neg (show ¬ n.op = 31 by omega), if_pos (show n.op = 26 ∨ n.op = 27 ∨ n.op = 28 ∨ n.op = 29 ∨ n.op = 30 by omega)] at hf
      have k20 : ∀ b : Bool, b = (decide (a = 2) && decide (c = 1) && decide (d = 1)) → fullingref7_nodeSort.p20 (fun v1 _ => v1 = .int .i64 (finS l n [a, c, d])) (.bool b) s := by
        intro b hb
        refine fullingref7_nodeSort.p20_s fun _ => rf_sortIf ?_
        show _ = _
        rw [hf, ← hb]; cases b <;> rfl
      have k10 : ∀ b : Bool, b = (decide (a = 2) && decide (c = 1)) → fullingref7_nodeSort.p10 (fun v1 _ => v1 = .int .i64 (finS l n [a, c, d])) (eInts [a, c, d]) (.bool b) s := by
        intro b hb
        refine fullingref7_nodeSort.p10_s fun _ => ?_
        rw [br_bool]
        split
        · rename_i h
          refine rd3 ?_
          rw [bin_eql, bo_some]
          exact k20 _ (by rw [← hb, h]; simp)
        · rename_i h
          exact k20 _ (by rw [← hb]; simp at h; simp [h])
      refine rd1 ?_
      simp only [bin_eql, bo_some, br_bool, decide_eq_true_eq]
      split
      · rename_i h
        refine rd2 ?_
        simp only [bin_eql, bo_some]
        exact k10 _ (by simp [h])
      · rename_i h
        exact k10 _ (by simp [h])
    · rename_i h28
      have h28 : n.op ≠ 28 := by simpa using h28
      rw [bin_eql, bo_some, br_bool]
      split
      · rename_i h30
        have h30 : n.op = 30 := by simpa using h30
        have hvo := vo_30 har h30
        rw [hvo, if_neg (show ¬ n.op = 31 by omega), if_pos (show n.op = 26 ∨ n.op = 27 ∨ n.op = 28 ∨ n.op = 29 ∨ n.op = 30 by omega)] at hf
        have k19 : ∀ b : Bool, b = (decide (1 ≤ k.length) && decide (k.length ≤ 7) && decide (k.getD 0 0 = 2) && (k.drop 1).all (fun x => decide (x = 1))) → fullingref7_nodeSort.p19 (fun v1 _ => v1 = .int .i64 (finS l n k)) (.bool b) s := by
          intro b hb
          refine fullingref7_nodeSort.p19_s fun _ => rf_sortIf ?_
          show _ = _
          rw [hf, ← hb]; cases b <;> rfl
        have k18 : ∀ b : Bool, b = (decide (1 ≤ k.length) && decide (k.length ≤ 7) && decide (k.getD 0 0 = 2)) → fullingref7_nodeSort.p18 (fun v1 _ => v1 = .int .i64 (finS l n k)) (eInts k) (.bool b) s := by
          intro b hb
          refine fullingref7_nodeSort.p18_s fun _ => ?_
          rw [br_bool]
          split
          · rename_i h
            rw [h] at hb
            have hb' := hb.symm
            simp only [Bool.and_eq_true, decide_eq_true_eq] at hb'
            obtain ⟨v, hv1, hv2⟩ := vSlice_drop (l := k) (i := 1) (by omega)
            have : vSlice 1 (eInts k) (some (.int .i64 1)) none = some v := hv1
            rw [this, bo_some]
            refine rf_av hv2 (by simp; omega) ?_
            exact k19 _ (by rw [← hb]; rfl)
          · rename_i h
            exact k19 _ (by rw [← hb]; simp at h; simp [h])
        have k11 : ∀ b : Bool, b = (decide (1 ≤ k.length) && decide (k.length ≤ 7)) → fullingref7_nodeSort.p11 (fun v1 _ => v1 = .int .i64 (finS l n k)) (eInts k) (.bool b) s := by
          intro b hb
          refine fullingref7_nodeSort.p11_s fun _ => ?_
          rw [br_bool]
          split
          · rename_i h
            rw [h] at hb
            have hb' := hb.symm
            simp only [Bool.and_eq_true, decide_eq_true_eq] at hb'
            refine get_int (i := 0) (by omega) ?_
            rw [bin_eql, bo_some]
            exact k18 _ (by rw [← hb]; rfl)
          · rename_i h
            exact k18 _ (by rw [← hb]; simp at h; simp [h])
        simp only [vLen_eS, bo_some, bin_geq, bin_leq, br_bool, decide_eq_true_eq]
        have e1 : ((1 : Int) ≤ k.length) ↔ 1 ≤ k.length := by omega
        have e2 : ((k.length : Int) ≤ 7) ↔ k.length ≤ 7 := by omega
        split
        · rename_i h
          exact k11 _ (by rw [e1] at h; simp [h, e2])
        · rename_i h
          exact k11 _ (by rw [e1] at h; simp [h])
      · rename_i h30
        have h30 : n.op ≠ 30 := by simpa using h30
        rw [bin_eql, bo_some, br_bool]
        split
        · rename_i h31
          have h31 : n.op = 31 := by simpa using h31
          have hvo := vo_31 har h31
          rw [hvo, if_pos h31] at hf
          have hq : (k.length : Int).tdiv 2 = ((k.length / 2 : Nat) : Int) := rfl
          have hr : (k.length : Int).tmod 2 = ((k.length % 2 : Nat) : Int) := rfl
          rw [vLen_eS, bo_some, bin_quo (by decide) (by rw [hq]; omega) (by rw [hq]; omega), bo_some, bo_some, bin_rem (by decide), bo_some, bin_eql, bo_some, br_bool, hq, hr]
          have hspec : (decide (3 ≤ k.length) && decide (k.length % 2 = 1) && decide (lv k.length ≤ 16) && matchS k (loopSortsS k.length)) =
              (decide (k.length % 2 = 1) && decide (1 ≤ k.length / 2) && decide (k.length / 2 ≤ 16) && decide (k.getD 0 0 = 2) && (((k.drop 1).take (k.length / 2)).all fun x => decide (x = 1)) && decide (k.getD (k.length / 2 + 1) 0 = 2) && ((k.drop (k.length / 2 + 2)).all fun x => decide (x = 1))) := by
            by_cases h3 : 3 ≤ k.length ∧ k.length % 2 = 1
            · have hlv : lv k.length = k.length / 2 := by unfold lv; omega
              rw [loop_match h3.1 h3.2, hlv]
              simp only [h3.1, h3.2, decide_true, Bool.true_and, show 1 ≤ k.length / 2 by omega, Bool.and_assoc]
            · by_cases ho : k.length % 2 = 1
              · have h3' : ¬ 3 ≤ k.length := fun h => h3 ⟨h, ho⟩
                have h1' : ¬ 1 ≤ k.length / 2 := by omega
                simp [h3', h1']
              · simp [ho]
          rw [hspec] at hf
          generalize hA : ((k.drop 1).take (k.length / 2)).all (fun x => decide (x = 1)) = A at hf
          generalize hB : (k.drop (k.length / 2 + 2)).all (fun x => decide (x = 1)) = B at hf
          have k17 : ∀ b : Bool, b = (decide (k.length % 2 = 1) && decide (1 ≤ k.length / 2) && decide (k.length / 2 ≤ 16) && decide (k.getD 0 0 = 2) && A && decide (k.getD (k.length / 2 + 1) 0 = 2) && B) → fullingref7_nodeSort.p17 (fun v1 _ => v1 = .int .i64 (finS l n k)) (.bool b) s := by
            intro b hb
            refine fullingref7_nodeSort.p17_s fun _ => rf_sortIf ?_
            show _ = _
            rw [hf, ← hb]; cases b <;> rfl
          have k16 : ∀ b : Bool, b = (decide (k.length % 2 = 1) && decide (1 ≤ k.length / 2) && decide (k.length / 2 ≤ 16) && decide (k.getD 0 0 = 2) && A && decide (k.getD (k.length / 2 + 1) 0 = 2)) → fullingref7_nodeSort.p16 (fun v1 _ => v1 = .int .i64 (finS l n k)) (eInts k) (.int .i64 ((k.length / 2 : Nat) : Int)) (.bool b) s := by
            intro b hb
            refine fullingref7_nodeSort.p16_s fun _ => ?_
            rw [br_bool]
            split
            · rename_i h
              rw [h] at hb
              have hb' := hb.symm
              simp only [Bool.and_eq_true, decide_eq_true_eq] at hb'
              rw [bin_add (by omega) (by omega), bo_some]
              obtain ⟨v, hv1, hv2⟩ := vSlice_drop (l := k) (i := k.length / 2 + 2) (by omega)
              have : vSlice 1 (eInts k) (some (.int .i64 (((k.length / 2 : Nat) : Int) + 2))) none = some v := hv1
              rw [this, bo_some]
              refine rf_av hv2 (by simp; omega) ?_
              exact k17 _ (by rw [hB, ← hb]; rfl)
            · rename_i h
              exact k17 _ (by rw [← hb]; simp at h; simp [h])
          have k15 : ∀ b : Bool, b = (decide (k.length % 2 = 1) && decide (1 ≤ k.length / 2) && decide (k.length / 2 ≤ 16) && decide (k.getD 0 0 = 2) && A) → fullingref7_nodeSort.p15 (fun v1 _ => v1 = .int .i64 (finS l n k)) (eInts k) (.int .i64 ((k.length / 2 : Nat) : Int)) (.bool b) s := by
            intro b hb
            refine fullingref7_nodeSort.p15_s fun _ => ?_
            rw [br_bool]
            split
            · rename_i h
              rw [h] at hb
              have hb' := hb.symm
              simp only [Bool.and_eq_true, decide_eq_true_eq] at hb'
              rw [bin_inc (by omega), bo_some]
              refine get_int (i := k.length / 2 + 1) (by omega) ?_
              rw [bin_eql, bo_some]
              exact k16 _ (by rw [← hb]; rfl)
            · rename_i h
              exact k16 _ (by rw [← hb]; simp at h; simp [h])
          have k14 : ∀ b : Bool, b = (decide (k.length % 2 = 1) && decide (1 ≤ k.length / 2) && decide (k.length / 2 ≤ 16) && decide (k.getD 0 0 = 2)) → fullingref7_nodeSort.p14 (fun v1 _ => v1 = .int .i64 (finS l n k)) (eInts k) (.int .i64 ((k.length / 2 : Nat) : Int)) (.bool b) s := by
            intro b hb
            refine fullingref7_nodeSort.p14_s fun _ => ?_
            rw [br_bool]
            split
            · rename_i h
              rw [h] at hb
              have hb' := hb.symm
              simp only [Bool.and_eq_true, decide_eq_true_eq] at hb'
              rw [bin_inc (by omega), bo_some]
              obtain ⟨v, hv1, hv2⟩ := vSlice_mid (l := k) (i := 1) (j := k.length / 2 + 1) (by omega) (by omega)
              have : vSlice 1 (eInts k) (some (.int .i64 1)) (some (.int .i64 ((k.length / 2 + 1 : Nat) : Int))) = some v := hv1
              rw [this, bo_some]
              refine rf_av hv2 (by simp; omega) ?_
              rw [Nat.add_sub_cancel]
              exact k15 _ (by rw [hA, ← hb]; rfl)
            · rename_i h
              exact k15 _ (by rw [← hb]; simp at h; simp [h])
          have k13 : ∀ b : Bool, b = (decide (k.length % 2 = 1) && decide (1 ≤ k.length / 2) && decide (k.length / 2 ≤ 16)) → fullingref7_nodeSort.p13 (fun v1 _ => v1 = .int .i64 (finS l n k)) (eInts k) (.int .i64 ((k.length / 2 : Nat) : Int)) (.bool b) s := by
            intro b hb
            refine fullingref7_nodeSort.p13_s fun _ => ?_
            rw [br_bool]
            split
            · rename_i h
              rw [h] at hb
              have hb' := hb.symm
              simp only [Bool.and_eq_true, decide_eq_true_eq] at hb'
              refine get_int (i := 0) (by omega) ?_
              rw [bin_eql, bo_some]
              exact k14 _ (by rw [← hb]; rfl)
            · rename_i h
              exact k14 _ (by rw [← hb]; simp at h; simp [h])
          have k12 : ∀ b : Bool, b = (decide (k.length % 2 = 1) && decide (1 ≤ k.length / 2)) → fullingref7_nodeSort.p12 (fun v1 _ => v1 = .int .i64 (finS l n k)) (eInts k) (.int .i64 ((k.length / 2 : Nat) : Int)) (.bool b) s := by
            intro b hb
            refine fullingref7_nodeSort.p12_s fun _ => ?_
            rw [br_bool]
            split
            · rename_i h
              rw [h] at hb
              rw [bin_leq, bo_some]
              exact k13 _ (by rw [← hb, Bool.true_and, Bool.eq_iff_iff]; simp only [decide_eq_true_eq]; omega)
            · rename_i h
              exact k13 _ (by rw [← hb]; simp at h; simp [h])
          split
          · rename_i h
            have h' : k.length % 2 = 1 := by simp at h; omega
            rw [bin_geq, bo_some]
            exact k12 _ (by rw [decide_eq_true h', Bool.true_and, Bool.eq_iff_iff]; simp only [decide_eq_true_eq]; omega)
          · rename_i h
            have h' : ¬ k.length % 2 = 1 := by simp at h; omega
            exact k12 _ (by simp [h'])
        · rename_i h31
          have h31 : n.op ≠ 31 := by simpa using h31
          refine rf_av (cv_ints k) hb ?_
          refine rf_sortIf ?_
          show _ = _
          have hvo : validOperandsS n.op k = (k.all fun x => decide (x = 1)) := by
            have hl := arity_len (by unfold arBad at har; exact har) h31 h30
            rw [vo_fix har h31 h30 n22]
            have hos : operandSortsS n.op = [1, 1] := by unfold operandSortsS; rw [if_neg n22, if_neg (by omega), if_neg h28, if_neg n24, if_neg n25]
            rw [hos] at hl ⊢
            match k, hl with
            | [], _ => rfl
            | [a], _ => simp [matchS]
            | [a, c], _ => simp [matchS]
            | _ :: _ :: _ :: _, h => simp at h
          rw [hf, hvo, if_neg h31, if_neg (show ¬ (n.op = 26 ∨ n.op = 27 ∨ n.op = 28 ∨ n.op = 29 ∨ n.op = 30) by omega), if_neg n22, if_neg n3]
          cases (k.all fun x => decide (x = 1)) <;> rfl
end Go.Am.Ytmjaimpkjjkliaa
