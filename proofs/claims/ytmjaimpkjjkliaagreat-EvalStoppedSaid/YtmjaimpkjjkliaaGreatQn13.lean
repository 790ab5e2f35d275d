/- My texts, put together (13). -/
import Derived.Test.YtmjaimpkjjkliaaGreatQn12
set_option linter.unusedVariables false
namespace Go.Am.YtmjaimpkjjkliaaGreat
open Go.Proofs
theorem vi_eq {l : List Node} {n : Node} (h : n.op ≠ 25) : validImmS l n = validImmR n.op n.imm := by
 unfold validImmS validImmR maxImmS
 rw [Bool.eq_iff_iff]
 repeat' split
 all_goals (try simp_all)
 all_goals omega
structure LoopOk (l : List Node) (n : Node) : Prop where
 kid : KidOk l n
 odd : (l.getD (n.kids.getD 0 0).toNat default).kids.length % 2 = 1
 three : 3 ≤ (l.getD (n.kids.getD 0 0).toNat default).kids.length
 few : lv (l.getD (n.kids.getD 0 0).toNat default).kids.length ≤ 16
def arBad (op : Int) (k : List Int) : Prop := (arityS op).2 = false ∨ (0 ≤ (arityS op).1 ∧ (arityS op).1 ≠ k.length)
theorem vo_bad {op : Int} {k : List Int} (h : arBad op k) : validOperandsS op k = false := by unfold arBad at h; unfold validOperandsS; rw [if_pos h]
theorem len1 {k : List Int} (h : k.length = 1) : ∃ a, k = [a] := by match k, h with | [a], _ => exact ⟨a, rfl⟩
theorem len2 {k : List Int} (h : k.length = 2) : ∃ a b, k = [a, b] := by match k, h with | [a, b], _ => exact ⟨a, b, rfl⟩
theorem len3 {k : List Int} (h : k.length = 3) : ∃ a b c, k = [a, b, c] := by match k, h with | [a, b, c], _ => exact ⟨a, b, c, rfl⟩
theorem ar_len {op m : Int} {k : List Int} (h : ¬ arBad op k) (ha : arityS op = (m, true)) (hm : 0 ≤ m) : (k.length : Int) = m := by
 unfold arBad at h
 rw [ha] at h
 simp only [not_or, not_and, Decidable.not_not] at h
 exact (h.2 hm).symm
theorem finS_of {l : List Node} {n : Node} {k : List Int} (h25 : n.op ≠ 25) (hv : validImmR n.op n.imm = true) : finS l n k = if validOperandsS n.op k = false then 0 else
  if n.op = 31 then 3 else if n.op = 26 ∨ n.op = 27 ∨ n.op = 28 ∨ n.op = 29 ∨ n.op = 30 then 2 else if n.op = 22 then k.getD 1 0 else if n.op = 3 then (if n.imm.tmod 16 = 0 then 2 else 1) else 1 := by
 unfold finS
 rw [vi_eq h25, hv]
 simp only [Bool.true_eq_false, or_false, h25, if_false]
theorem rd1 {h : Heap} {a : Int} {l : List Int} {k : V → Prop} (hk : k (.int .i64 a)) : bo (vIaddr 1 (eInts (a :: l)) (.int .i64 0)) fun y => bo (loadAt h none y) k := get_int (i := 0) (by simp) hk
theorem rd2 {h : Heap} {a b : Int} {l : List Int} {k : V → Prop} (hk : k (.int .i64 b)) : bo (vIaddr 1 (eInts (a :: b :: l)) (.int .i64 1)) fun y => bo (loadAt h none y) k := get_int (i := 1) (by simp) hk
theorem rd3 {h : Heap} {a b c : Int} {l : List Int} {k : V → Prop} (hk : k (.int .i64 c)) : bo (vIaddr 1 (eInts (a :: b :: c :: l)) (.int .i64 2)) fun y => bo (loadAt h none y) k := get_int (i := 2) (by simp) hk
theorem rf_sortIf {s : S} {b : Bool} {m : Int} {Q : V → S → Prop} (h : Q (.int .i64 (if b = true then m else 0)) s) : C Pg F.r7_sortIf [.bool b, .int .i64 m] s Q :=
 (r7_sortIf_pu b m).c (.cons (.bool _) (.cons (.int _ _) .nil)) h
theorem vSlice_drop {l : List Int} {i : Nat} (h : i ≤ l.length) : ∃ v, vSlice 1 (eInts l) (some (.int .i64 (i : Int))) none = some v ∧ Cv v (eInts (l.drop i)) := by
 unfold eInts eS
 cases l with
 | nil =>
  have : i = 0 := by simpa using h
  subst this
  exact ⟨.emp, rfl, .emp⟩
 | cons a l =>
  simp only [List.length_cons, eL, vSlice, vBounds, natOf_nat]
  have hle : (Nat.ble i (l.length + 1) && Nat.ble (l.length + 1) (l.length + 1)) = true := by simp; simpa using h
  rw [hle]
  simp only [cond_true]
  cases hb : Nat.beq i (l.length + 1) with
  | true =>
   have := Nat.eq_of_beq_eq_true hb
   subst this
   refine ⟨.emp, rfl, ?_⟩
   rw [show (a :: l).drop (l.length + 1) = [] by simp]
   exact .emp
  | false =>
   have hne := Nat.ne_of_beq_eq_false hb
   have hlt : i < (a :: l).length := by simp at h ⊢; omega
   refine ⟨_, rfl, ?_⟩
   have hd : ((a :: l).flatMap e1).drop (i * 1) = ((a :: l).drop i).flatMap e1 := by
    rw [flat_drop (α := Int) e1_len (a :: l) i hlt, drop_getD (a :: l) i hlt]; rfl
   rw [hd]
   have hlen : l.length + 1 - i = ((a :: l).drop i).length := by simp
   rw [hlen]
   cases hx : (a :: l).drop i with
   | nil => simp at hx; simp at hlt; omega
   | cons b t => exact .lit (.refl fun v hv => by obtain ⟨a, _, ha⟩ := List.mem_flatMap.1 hv; exact e1_cv a v ha)
theorem vSlice_mid {l : List Int} {i j : Nat} (h : i ≤ j) (hj : j ≤ l.length) : ∃ v, vSlice 1 (eInts l) (some (.int .i64 (i : Int))) (some (.int .i64 (j : Int))) = some v ∧ Cv v (eInts ((l.drop i).take (j - i))) := by
 unfold eInts eS
 cases l with
 | nil =>
  have : j = 0 := by simpa using hj
  subst this
  have : i = 0 := by omega
  subst this
  exact ⟨.emp, rfl, .emp⟩
 | cons a l =>
  simp only [List.length_cons, eL, vSlice, vBounds, natOf_nat]
  have hle : (Nat.ble i j && Nat.ble j (l.length + 1)) = true := by simp; exact ⟨h, by simpa using hj⟩
  rw [hle]
  simp only [cond_true]
  cases hb : Nat.beq i j with
  | true =>
   have := Nat.eq_of_beq_eq_true hb
   subst this
   refine ⟨.emp, rfl, ?_⟩
   rw [show ((a :: l).drop i).take (i - i) = [] by simp]
   exact .emp
  | false =>
   have hne := Nat.ne_of_beq_eq_false hb
   have hlt : i < (a :: l).length := by simp at hj ⊢; omega
   refine ⟨_, rfl, ?_⟩
   have hd : ((a :: l).flatMap e1).drop (i * 1) = ((a :: l).drop i).flatMap e1 := by
    rw [flat_drop (α := Int) e1_len (a :: l) i hlt, drop_getD (a :: l) i hlt]; rfl
   rw [hd]
   have := cv_take e1_cv ((a :: l).drop i) (j - i) (by simp at hj ⊢; omega)
   obtain ⟨m, hm⟩ : ∃ m, j - i = m + 1 := ⟨j - i - 1, by omega⟩
   rw [hm] at this ⊢
   exact this
theorem rf_av {s : S} {v : V} {t : List Int} {Q : V → S → Prop} (hv : Cv v (eInts t)) (hb : t.length < 1073741824) (h : Q (.bool (t.all fun x => decide (x = 1))) s) : C Pg F.r7_allValues [v] s Q :=
 (r7_allValues_pu hb).c (.cons hv .nil) h
theorem all_iff {l : List Int} : (l.all fun x => decide (x = 1)) = true ↔ ∀ i, i < l.length → l.getD i 0 = 1 := by
 rw [List.all_eq_true]
 constructor
 ·intro h i hi
  have := h l[i] (List.getElem_mem _)
  simpa [List.getD, hi] using this
 ·intro h x hx
  obtain ⟨i, hi, rfl⟩ := List.mem_iff_getElem.1 hx
  have := h i hi
  simpa [List.getD, hi] using this
theorem match_iff : ∀ {k w : List Int}, k.length = w.length → (matchS k w = true ↔ ∀ i, i < k.length → k.getD i 0 = w.getD i 0) := by
 intro k
 induction k with
 | nil => intro w h; simp [matchS]
 | cons a k ih =>
  intro w h
  cases w with
  | nil => simp at h
  | cons b w =>
   simp only [matchS, Bool.and_eq_true, decide_eq_true_eq]
   rw [ih (by simpa using h)]
   constructor
   ·rintro ⟨rfl, h2⟩ i hi
    cases i with
    | zero => rfl
    | succ i => simpa using h2 i (by simpa using hi)
   ·intro h2
    refine ⟨by simpa using h2 0 (by simp), fun i hi => ?_⟩
    simpa using h2 (i + 1) (by simpa using hi)
theorem loopSorts_get {n i : Nat} (h : i < n) : (loopSortsS n).getD i 0 = if i = lv n + 1 then 2 else if i = 0 then 2 else 1 := by
 unfold loopSortsS
 simp only [List.getD_eq_getElem?_getD, List.getElem?_set, List.length_set, List.length_replicate, List.getElem?_replicate]
 by_cases h1 : lv n + 1 = i
 ·subst h1; simp [h]
 ·rw [if_neg h1, if_neg (show ¬ i = lv n + 1 from fun e => h1 e.symm)]
  by_cases h0 : 0 = i
  ·subst h0; simp [h]
  ·rw [if_neg h0, if_neg (show ¬ i = 0 from fun e => h0 e.symm), if_pos h]; rfl
theorem loop_match {k : List Int} (h3 : 3 ≤ k.length) (ho : k.length % 2 = 1) :
  matchS k (loopSortsS k.length) = (decide (k.getD 0 0 = 2) && (((k.drop 1).take (k.length / 2)).all fun x => decide (x = 1)) && decide (k.getD (k.length / 2 + 1) 0 = 2) && ((k.drop (k.length / 2 + 2)).all fun x => decide (x = 1))) := by
 have hlv : lv k.length = k.length / 2 := by unfold lv; omega
 have hll : k.length = (loopSortsS k.length).length := by simp [loopSortsS]
 rw [Bool.eq_iff_iff, match_iff hll]
 simp only [Bool.and_eq_true, decide_eq_true_eq, all_iff]
 have g1 : ∀ i, ((k.drop 1).take (k.length / 2)).getD i 0 = if i < k.length / 2 then k.getD (1 + i) 0 else 0 := by
  intro i
  simp only [List.getD_eq_getElem?_getD, List.getElem?_take, List.getElem?_drop]
  split <;> rfl
 have g2 : ∀ i, (k.drop (k.length / 2 + 2)).getD i 0 = k.getD (k.length / 2 + 2 + i) 0 := by
  intro i
  simp only [List.getD_eq_getElem?_getD, List.getElem?_drop]
 constructor
 ·intro h
  refine ⟨⟨⟨?_, fun i hi => ?_⟩, ?_⟩, fun i hi => ?_⟩
  ·have := h 0 (by omega)
   rw [loopSorts_get (by omega)] at this
   simpa using this
  ·simp at hi
   rw [g1, if_pos (by omega), h (1 + i) (by omega), loopSorts_get (by omega), if_neg (by omega), if_neg (by omega)]
  ·rw [h _ (by omega), loopSorts_get (by omega), if_pos (by omega)]
  ·simp at hi
   rw [g2, h _ (by omega), loopSorts_get (by omega), if_neg (by omega), if_neg (by omega)]
 ·rintro ⟨⟨⟨h0, h1⟩, h2⟩, h4⟩ i hi
  rw [loopSorts_get hi, hlv]
  split
  ·rename_i e; rw [e]; exact h2
  ·split
   ·rename_i e; rw [e]; exact h0
   ·rcases Nat.lt_or_ge (k.length / 2 + 1) i with hc | hc
    ·have := h4 (i - (k.length / 2 + 2)) (by simp; omega)
     rw [g2, show k.length / 2 + 2 + (i - (k.length / 2 + 2)) = i by omega] at this
     exact this
    ·have := h1 (i - 1) (by simp; omega)
     rw [g1, if_pos (by omega), show 1 + (i - 1) = i by omega] at this
     exact this
theorem vo_fix {op : Int} {k : List Int} (h : ¬ arBad op k) (h31 : op ≠ 31) (h30 : op ≠ 30) (h22 : op ≠ 22) : validOperandsS op k = matchS k (operandSortsS op) := by
 unfold arBad at h
 unfold validOperandsS
 rw [if_neg h, if_neg h31, if_neg h30, if_neg fun e => h22 e.1]
theorem vo_30 {op : Int} {k : List Int} (h : ¬ arBad op k) (h30 : op = 30) : validOperandsS op k = (decide (1 ≤ k.length) && decide (k.length ≤ 7) && decide (k.getD 0 0 = 2) && (k.drop 1).all (fun x => decide (x = 1))) := by
 unfold arBad at h
 unfold validOperandsS
 rw [if_neg h, if_neg (by omega), if_pos h30]
theorem vo_31 {op : Int} {k : List Int} (h : ¬ arBad op k) (h31 : op = 31) : validOperandsS op k = (decide (3 ≤ k.length) && decide (k.length % 2 = 1) && decide (lv k.length ≤ 16) && matchS k (loopSortsS k.length)) := by
 unfold arBad at h
 unfold validOperandsS
 rw [if_neg h, if_pos h31]
theorem rf_ns_p4t {l : List Node} {n : Node} {k : List Int} {s : S} (h : finS l n k = 0) : r7_nodeSort.p4 (fun v1 _ => v1 = .int .i64 (finS l n k)) (eNodes l) (eInts k) (.ptr 0 0 0 3) (.bool true) s := by
 refine r7_nodeSort.p4_s fun _ => ?_
 rw [br_bool, if_pos rfl]
 show _ = _
 rw [h]
theorem rf_ns_p8 {l : List Node} {n : Node} {k : List Int} {s : S} (hb : k.length < 1073741824) (hs : s.h.get 0 = some (.row (eN n) 0 0)) (har : ¬ arBad n.op k) (hv : validImmR n.op n.imm = true)
  (hno : n.op ≠ 3 ∧ n.op ≠ 26 ∧ n.op ≠ 22 ∧ n.op ≠ 23 ∧ n.op ≠ 24 ∧ n.op ≠ 25) (b : Bool) (hb2 : b = true ↔ (n.op = 27 ∨ n.op = 29)) :
  r7_nodeSort.p8 (fun v1 _ => v1 = .int .i64 (finS l n k)) (eInts k) (.int .i64 n.op) (.bool b) s := by
 obtain ⟨n3, n26, n22, n23, n24, n25⟩ := hno
 have hf := finS_of (l := l) (k := k) n25 hv
 refine r7_nodeSort.p8_s fun _ => ?_
 cases b with
 | true =>
  have ho := hb2.1 rfl
  have hl : k.length = 2 := by
   have := ar_len (m := 2) har (by rcases ho with h | h <;> rw [h] <;> decide) (by decide)
   omega
  obtain ⟨a, c, rfl⟩ := len2 hl
  have hvo : validOperandsS n.op [a, c] = (decide (a = 2) && decide (c = 1)) := by
   rw [vo_fix har (by omega) (by omega) n22]
   have : operandSortsS n.op = [2, 1] := by unfold operandSortsS; rw [if_neg n22, if_pos (by omega)]
   rw [this]; simp [matchS]
  rw [hvo, if_neg (show ¬ n.op = 31 by omega), if_pos (show n.op = 26 ∨ n.op = 27 ∨ n.op = 28 ∨ n.op = 29 ∨ n.op = 30 by omega)] at hf
  rw [br_bool, if_pos rfl]
  refine rd1 ?_
  simp only [bin_eql, bo_some, br_bool, decide_eq_true_eq]
  have k9 : ∀ b : Bool, b = (decide (a = 2) && decide (c = 1)) → r7_nodeSort.p9 (fun v1 _ => v1 = .int .i64 (finS l n [a, c])) (.bool b) s := by
   intro b hb
   refine r7_nodeSort.p9_s fun _ => rf_sortIf ?_
   show _ = _
   rw [hf, ← hb]; cases b <;> rfl
  split
  ·rename_i h
   refine rd2 ?_
   simp only [bin_eql, bo_some]
   exact k9 _ (by simp [h])
  ·rename_i h
   exact k9 _ (by simp [h])
 | false =>
  have ho : ¬ (n.op = 27 ∨ n.op = 29) := fun h => by simpa using hb2.2 h
  rw [br_bool, if_neg (by simp), bin_eql, bo_some, br_bool]
  split
  ·rename_i h28
   have h28 : n.op = 28 := by simpa using h28
   have hl : k.length = 3 := by
    have := ar_len (m := 3) har (by rw [h28]; decide) (by decide)
    omega
   obtain ⟨a, c, d, rfl⟩ := len3 hl
   have hvo : validOperandsS n.op [a, c, d] = (decide (a = 2) && decide (c = 1) && decide (d = 1)) := by
    rw [vo_fix har (by omega) (by omega) n22]
    have : operandSortsS n.op = [2, 1, 1] := by rw [h28]; decide
    rw [this]; simp [matchS, Bool.and_assoc]
   rw [hvo, if_neg (show ¬ n.op = 31 by omega), if_pos (show n.op = 26 ∨ n.op = 27 ∨ n.op = 28 ∨ n.op = 29 ∨ n.op = 30 by omega)] at hf
   have k20 : ∀ b : Bool, b = (decide (a = 2) && decide (c = 1) && decide (d = 1)) → r7_nodeSort.p20 (fun v1 _ => v1 = .int .i64 (finS l n [a, c, d])) (.bool b) s := by
    intro b hb
    refine r7_nodeSort.p20_s fun _ => rf_sortIf ?_
    show _ = _
    rw [hf, ← hb]; cases b <;> rfl
   have k10 : ∀ b : Bool, b = (decide (a = 2) && decide (c = 1)) → r7_nodeSort.p10 (fun v1 _ => v1 = .int .i64 (finS l n [a, c, d])) (eInts [a, c, d]) (.bool b) s := by
    intro b hb
    refine r7_nodeSort.p10_s fun _ => ?_
    rw [br_bool]
    split
    ·rename_i h
     refine rd3 ?_
     rw [bin_eql, bo_some]
     exact k20 _ (by rw [← hb, h]; simp)
    ·rename_i h
     exact k20 _ (by rw [← hb]; simp at h; simp [h])
   refine rd1 ?_
   simp only [bin_eql, bo_some, br_bool, decide_eq_true_eq]
   split
   ·rename_i h
    refine rd2 ?_
    simp only [bin_eql, bo_some]
    exact k10 _ (by simp [h])
   ·rename_i h
    exact k10 _ (by simp [h])
  ·rename_i h28
   have h28 : n.op ≠ 28 := by simpa using h28
   rw [bin_eql, bo_some, br_bool]
   split
   ·rename_i h30
    have h30 : n.op = 30 := by simpa using h30
    have hvo := vo_30 har h30
    rw [hvo, if_neg (show ¬ n.op = 31 by omega), if_pos (show n.op = 26 ∨ n.op = 27 ∨ n.op = 28 ∨ n.op = 29 ∨ n.op = 30 by omega)] at hf
    have k19 : ∀ b : Bool, b = (decide (1 ≤ k.length) && decide (k.length ≤ 7) && decide (k.getD 0 0 = 2) && (k.drop 1).all (fun x => decide (x = 1))) → r7_nodeSort.p19 (fun v1 _ => v1 = .int .i64 (finS l n k)) (.bool b) s := by
     intro b hb
     refine r7_nodeSort.p19_s fun _ => rf_sortIf ?_
     show _ = _
     rw [hf, ← hb]; cases b <;> rfl
    have k18 : ∀ b : Bool, b = (decide (1 ≤ k.length) && decide (k.length ≤ 7) && decide (k.getD 0 0 = 2)) → r7_nodeSort.p18 (fun v1 _ => v1 = .int .i64 (finS l n k)) (eInts k) (.bool b) s := by
     intro b hb
     refine r7_nodeSort.p18_s fun _ => ?_
     rw [br_bool]
     split
     ·rename_i h
      rw [h] at hb
      have hb' := hb.symm
      simp only [Bool.and_eq_true, decide_eq_true_eq] at hb'
      obtain ⟨v, hv1, hv2⟩ := vSlice_drop (l := k) (i := 1) (by omega)
      have : vSlice 1 (eInts k) (some (.int .i64 1)) none = some v := hv1
      rw [this, bo_some]
      refine rf_av hv2 (by simp; omega) ?_
      exact k19 _ (by rw [← hb]; rfl)
     ·rename_i h
      exact k19 _ (by rw [← hb]; simp at h; simp [h])
    have k11 : ∀ b : Bool, b = (decide (1 ≤ k.length) && decide (k.length ≤ 7)) → r7_nodeSort.p11 (fun v1 _ => v1 = .int .i64 (finS l n k)) (eInts k) (.bool b) s := by
     intro b hb
     refine r7_nodeSort.p11_s fun _ => ?_
     rw [br_bool]
     split
     ·rename_i h
      rw [h] at hb
      have hb' := hb.symm
      simp only [Bool.and_eq_true, decide_eq_true_eq] at hb'
      refine get_int (i := 0) (by omega) ?_
      rw [bin_eql, bo_some]
      exact k18 _ (by rw [← hb]; rfl)
     ·rename_i h
      exact k18 _ (by rw [← hb]; simp at h; simp [h])
    simp only [vLen_eS, bo_some, bin_geq, bin_leq, br_bool, decide_eq_true_eq]
    have e1 : ((1 : Int) ≤ k.length) ↔ 1 ≤ k.length := by omega
    have e2 : ((k.length : Int) ≤ 7) ↔ k.length ≤ 7 := by omega
    split
    ·rename_i h
     exact k11 _ (by rw [e1] at h; simp [h, e2])
    ·rename_i h
     exact k11 _ (by rw [e1] at h; simp [h])
   ·rename_i h30
    have h30 : n.op ≠ 30 := by simpa using h30
    rw [bin_eql, bo_some, br_bool]
    split
    ·rename_i h31
     have h31 : n.op = 31 := by simpa using h31
     have hvo := vo_31 har h31
     rw [hvo, if_pos h31] at hf
     have hq : (k.length : Int).tdiv 2 = ((k.length / 2 : Nat) : Int) := rfl
     have hr : (k.length : Int).tmod 2 = ((k.length % 2 : Nat) : Int) := rfl
     rw [vLen_eS, bo_some, bin_quo (by decide) (by rw [hq]; omega) (by rw [hq]; omega), bo_some, bo_some, bin_rem (by decide), bo_some, bin_eql, bo_some, br_bool, hq, hr]
     have hspec : (decide (3 ≤ k.length) && decide (k.length % 2 = 1) && decide (lv k.length ≤ 16) && matchS k (loopSortsS k.length)) =
       (decide (k.length % 2 = 1) && decide (1 ≤ k.length / 2) && decide (k.length / 2 ≤ 16) && decide (k.getD 0 0 = 2) && (((k.drop 1).take (k.length / 2)).all fun x => decide (x = 1)) && decide (k.getD (k.length / 2 + 1) 0 = 2) && ((k.drop (k.length / 2 + 2)).all fun x => decide (x = 1))) := by
      by_cases h3 : 3 ≤ k.length ∧ k.length % 2 = 1
      ·have hlv : lv k.length = k.length / 2 := by unfold lv; omega
       rw [loop_match h3.1 h3.2, hlv]
       simp only [h3.1, h3.2, decide_true, Bool.true_and, show 1 ≤ k.length / 2 by omega, Bool.and_assoc]
      ·by_cases ho : k.length % 2 = 1
       ·have h3' : ¬ 3 ≤ k.length := fun h => h3 ⟨h, ho⟩
        have h1' : ¬ 1 ≤ k.length / 2 := by omega
        simp [h3', h1']
       ·simp [ho]
     rw [hspec] at hf
     generalize hA : ((k.drop 1).take (k.length / 2)).all (fun x => decide (x = 1)) = A at hf
     generalize hB : (k.drop (k.length / 2 + 2)).all (fun x => decide (x = 1)) = B at hf
     have k17 : ∀ b : Bool, b = (decide (k.length % 2 = 1) && decide (1 ≤ k.length / 2) && decide (k.length / 2 ≤ 16) && decide (k.getD 0 0 = 2) && A && decide (k.getD (k.length / 2 + 1) 0 = 2) && B) → r7_nodeSort.p17 (fun v1 _ => v1 = .int .i64 (finS l n k)) (.bool b) s := by
      intro b hb
      refine r7_nodeSort.p17_s fun _ => rf_sortIf ?_
      show _ = _
      rw [hf, ← hb]; cases b <;> rfl
     have k16 : ∀ b : Bool, b = (decide (k.length % 2 = 1) && decide (1 ≤ k.length / 2) && decide (k.length / 2 ≤ 16) && decide (k.getD 0 0 = 2) && A && decide (k.getD (k.length / 2 + 1) 0 = 2)) → r7_nodeSort.p16 (fun v1 _ => v1 = .int .i64 (finS l n k)) (eInts k) (.int .i64 ((k.length / 2 : Nat) : Int)) (.bool b) s := by
      intro b hb
      refine r7_nodeSort.p16_s fun _ => ?_
      rw [br_bool]
      split
      ·rename_i h
       rw [h] at hb
       have hb' := hb.symm
       simp only [Bool.and_eq_true, decide_eq_true_eq] at hb'
       rw [bin_add (by omega) (by omega), bo_some]
       obtain ⟨v, hv1, hv2⟩ := vSlice_drop (l := k) (i := k.length / 2 + 2) (by omega)
       have : vSlice 1 (eInts k) (some (.int .i64 (((k.length / 2 : Nat) : Int) + 2))) none = some v := hv1
       rw [this, bo_some]
       refine rf_av hv2 (by simp; omega) ?_
       exact k17 _ (by rw [hB, ← hb]; rfl)
      ·rename_i h
       exact k17 _ (by rw [← hb]; simp at h; simp [h])
     have k15 : ∀ b : Bool, b = (decide (k.length % 2 = 1) && decide (1 ≤ k.length / 2) && decide (k.length / 2 ≤ 16) && decide (k.getD 0 0 = 2) && A) → r7_nodeSort.p15 (fun v1 _ => v1 = .int .i64 (finS l n k)) (eInts k) (.int .i64 ((k.length / 2 : Nat) : Int)) (.bool b) s := by
      intro b hb
      refine r7_nodeSort.p15_s fun _ => ?_
      rw [br_bool]
      split
      ·rename_i h
       rw [h] at hb
       have hb' := hb.symm
       simp only [Bool.and_eq_true, decide_eq_true_eq] at hb'
       rw [bin_inc (by omega), bo_some]
       refine get_int (i := k.length / 2 + 1) (by omega) ?_
       rw [bin_eql, bo_some]
       exact k16 _ (by rw [← hb]; rfl)
      ·rename_i h
       exact k16 _ (by rw [← hb]; simp at h; simp [h])
     have k14 : ∀ b : Bool, b = (decide (k.length % 2 = 1) && decide (1 ≤ k.length / 2) && decide (k.length / 2 ≤ 16) && decide (k.getD 0 0 = 2)) → r7_nodeSort.p14 (fun v1 _ => v1 = .int .i64 (finS l n k)) (eInts k) (.int .i64 ((k.length / 2 : Nat) : Int)) (.bool b) s := by
      intro b hb
      refine r7_nodeSort.p14_s fun _ => ?_
      rw [br_bool]
      split
      ·rename_i h
       rw [h] at hb
       have hb' := hb.symm
       simp only [Bool.and_eq_true, decide_eq_true_eq] at hb'
       rw [bin_inc (by omega), bo_some]
       obtain ⟨v, hv1, hv2⟩ := vSlice_mid (l := k) (i := 1) (j := k.length / 2 + 1) (by omega) (by omega)
       have : vSlice 1 (eInts k) (some (.int .i64 1)) (some (.int .i64 ((k.length / 2 + 1 : Nat) : Int))) = some v := hv1
       rw [this, bo_some]
       refine rf_av hv2 (by simp; omega) ?_
       rw [Nat.add_sub_cancel]
       exact k15 _ (by rw [hA, ← hb]; rfl)
      ·rename_i h
       exact k15 _ (by rw [← hb]; simp at h; simp [h])
     have k13 : ∀ b : Bool, b = (decide (k.length % 2 = 1) && decide (1 ≤ k.length / 2) && decide (k.length / 2 ≤ 16)) → r7_nodeSort.p13 (fun v1 _ => v1 = .int .i64 (finS l n k)) (eInts k) (.int .i64 ((k.length / 2 : Nat) : Int)) (.bool b) s := by
      intro b hb
      refine r7_nodeSort.p13_s fun _ => ?_
      rw [br_bool]
      split
      ·rename_i h
       rw [h] at hb
       have hb' := hb.symm
       simp only [Bool.and_eq_true, decide_eq_true_eq] at hb'
       refine get_int (i := 0) (by omega) ?_
       rw [bin_eql, bo_some]
       exact k14 _ (by rw [← hb]; rfl)
      ·rename_i h
       exact k14 _ (by rw [← hb]; simp at h; simp [h])
     have k12 : ∀ b : Bool, b = (decide (k.length % 2 = 1) && decide (1 ≤ k.length / 2)) → r7_nodeSort.p12 (fun v1 _ => v1 = .int .i64 (finS l n k)) (eInts k) (.int .i64 ((k.length / 2 : Nat) : Int)) (.bool b) s := by
      intro b hb
      refine r7_nodeSort.p12_s fun _ => ?_
      rw [br_bool]
      split
      ·rename_i h
       rw [h] at hb
       rw [bin_leq, bo_some]
       exact k13 _ (by rw [← hb, Bool.true_and, Bool.eq_iff_iff]; simp only [decide_eq_true_eq]; omega)
      ·rename_i h
       exact k13 _ (by rw [← hb]; simp at h; simp [h])
     split
     ·rename_i h
      have h' : k.length % 2 = 1 := by simp at h; omega
      rw [bin_geq, bo_some]
      exact k12 _ (by rw [decide_eq_true h', Bool.true_and, Bool.eq_iff_iff]; simp only [decide_eq_true_eq]; omega)
     ·rename_i h
      have h' : ¬ k.length % 2 = 1 := by simp at h; omega
      exact k12 _ (by simp [h'])
    ·rename_i h31
     have h31 : n.op ≠ 31 := by simpa using h31
     refine rf_av (cv_ints k) hb ?_
     refine rf_sortIf ?_
     show _ = _
     have hvo : validOperandsS n.op k = (k.all fun x => decide (x = 1)) := by
      have hl := arity_len (by unfold arBad at har; exact har) h31 h30
      rw [vo_fix har h31 h30 n22]
      have hos : operandSortsS n.op = [1, 1] := by unfold operandSortsS; rw [if_neg n22, if_neg (by omega), if_neg h28, if_neg n24, if_neg n25]
      rw [hos] at hl ⊢
      match k, hl with
      | [], _ => rfl
      | [a], _ => simp [matchS]
      | [a, c], _ => simp [matchS]
      | _ :: _ :: _ :: _, h => simp at h
     rw [hf, hvo, if_neg h31, if_neg (show ¬ (n.op = 26 ∨ n.op = 27 ∨ n.op = 28 ∨ n.op = 29 ∨ n.op = 30) by omega), if_neg n22, if_neg n3]
     cases (k.all fun x => decide (x = 1)) <;> rfl
end Go.Am.YtmjaimpkjjkliaaGreat
namespace Go.Am.YtmjaimpkjjkliaaGreat
open Go.Proofs
theorem rf_ns_p4 {l : List Node} {n : Node} {k : List Int} {s : S} (hb : k.length < 1073741824) (hs : s.h.get 0 = some (.row (eN n) 0 0)) (hkl : k.length = n.kids.length) (har : ¬ arBad n.op k) (hv : validImmR n.op n.imm = true)
  (h25 : n.op = 25 → k.getD 0 0 = 3 → LoopOk l n) (hk3 : ∀ x ∈ k, x = 1 ∨ x = 2 ∨ x = 3) : r7_nodeSort.p4 (fun v1 _ => v1 = .int .i64 (finS l n k)) (eNodes l) (eInts k) (.ptr 0 0 0 3) (.bool false) s := by
 refine r7_nodeSort.p4_s fun _ => ?_
 rw [br_bool, if_neg (by simp)]
 refine fld hs (Nat.le_refl _) (by decide) rfl ?_
 rw [bin_eql, bo_some, br_bool]
 split
 ·rename_i h3
  have h3 : n.op = 3 := by simpa using h3
  have hf := finS_of (l := l) (k := k) (by omega) hv
  have hl : k.length = 0 := by
   have := ar_len (m := 0) har (by rw [h3]; decide) (by decide)
   omega
  have hk : k = [] := by simpa using hl
  subst hk
  rw [vo_fix har (by omega) (by omega) (by omega), show matchS [] (operandSortsS n.op) = true from rfl, if_neg (by simp), if_neg (show ¬ n.op = 31 by omega), if_neg (show ¬ (n.op = 26 ∨ n.op = 27 ∨ n.op = 28 ∨ n.op = 29 ∨ n.op = 30) by omega),
   if_neg (show ¬ n.op = 22 by omega), if_pos h3] at hf
  refine fld hs (Nat.le_refl _) (by decide) rfl ?_
  rw [bin_rem (by decide), bo_some, bin_eql, bo_some, br_bool]
  split
  ·rename_i h; show _ = _; rw [hf, if_pos (by simpa using h)]
  ·rename_i h; show _ = _; rw [hf, if_neg (by simpa using h)]
 ·rename_i h3
  have h3 : n.op ≠ 3 := by simpa using h3
  rw [bin_eql, bo_some, br_bool]
  split
  ·rename_i h26
   have h26 : n.op = 26 := by simpa using h26
   have hf := finS_of (l := l) (k := k) (by omega) hv
   have hl : k.length = 0 := by
    have := ar_len (m := 0) har (by rw [h26]; decide) (by decide)
    omega
   have hk : k = [] := by simpa using hl
   subst hk
   rw [vo_fix har (by omega) (by omega) (by omega), show matchS [] (operandSortsS n.op) = true from rfl, if_neg (by simp), if_neg (show ¬ n.op = 31 by omega), if_pos (show n.op = 26 ∨ n.op = 27 ∨ n.op = 28 ∨ n.op = 29 ∨ n.op = 30 by omega)] at hf
   show _ = _; rw [hf]
  ·rename_i h26
   have h26 : n.op ≠ 26 := by simpa using h26
   rw [bin_eql, bo_some, br_bool]
   split
   ·rename_i h22
    have h22 : n.op = 22 := by simpa using h22
    have hf := finS_of (l := l) (k := k) (by omega) hv
    have hl : k.length = 3 := by
     have := ar_len (m := 3) har (by rw [h22]; decide) (by decide)
     omega
    obtain ⟨a, c, d, rfl⟩ := len3 hl
    have hvo : validOperandsS n.op [a, c, d] = if c = 2 then (decide (a = 1) && decide (d = 2)) else (decide (a = 1) && decide (c = 1) && decide (d = 1)) := by
     unfold arBad at har
     unfold validOperandsS
     rw [if_neg har, if_neg (show ¬ n.op = 31 by omega), if_neg (show ¬ n.op = 30 by omega)]
     have : operandSortsS n.op = [1, 1, 1] := by rw [h22]; decide
     by_cases hc : c = 2
     ·rw [if_pos ⟨h22, hc⟩, if_pos hc]; rfl
     ·rw [if_neg (fun h => hc h.2), if_neg hc, this]; simp [matchS, Bool.and_assoc]
    rw [hvo, if_neg (show ¬ n.op = 31 by omega), if_neg (show ¬ (n.op = 26 ∨ n.op = 27 ∨ n.op = 28 ∨ n.op = 29 ∨ n.op = 30) by omega), if_pos h22] at hf
    have hspec : finS l n [a, c, d] = if a ≠ 1 ∨ c ≠ d ∨ c = 3 then 0 else c := by
     rw [hf]
     have hc := hk3 c (by simp)
     by_cases ha : a = 1 <;> by_cases hd : c = d
     ·subst ha; subst hd
      rcases hc with rfl | rfl | rfl <;> rfl
     ·rw [if_pos (Or.inr (Or.inl hd))]
      have hd' : ¬ d = c := fun e => hd e.symm
      rcases hc with rfl | rfl | rfl <;> simp [hd']
     ·rw [if_pos (Or.inl ha)]
      simp [ha]
     ·rw [if_pos (Or.inl ha)]
      simp [ha]
    have k21 : ∀ b : Bool, (b = true ↔ (a ≠ 1 ∨ c ≠ d ∨ c = 3)) → r7_nodeSort.p21 (fun v1 _ => v1 = .int .i64 (finS l n [a, c, d])) (eInts [a, c, d]) (.bool b) s := by
     intro b hb
     refine r7_nodeSort.p21_s fun _ => ?_
     rw [br_bool]
     split
     ·rename_i h; show _ = _; rw [hspec, if_pos (hb.1 h)]
     ·rename_i h
      refine rd2 ?_
      show _ = _
      rw [hspec, if_neg fun hc => h (hb.2 hc)]
    have k5 : ∀ b : Bool, (b = true ↔ (a ≠ 1 ∨ c ≠ d)) → r7_nodeSort.p5 (fun v1 _ => v1 = .int .i64 (finS l n [a, c, d])) (eInts [a, c, d]) (.bool b) s := by
     intro b hb
     refine r7_nodeSort.p5_s fun _ => ?_
     rw [br_bool]
     split
     ·rename_i h
      have := hb.1 h
      exact k21 true (by simp; omega)
     ·rename_i h
      refine rd2 ?_
      rw [bin_eql, bo_some]
      have hn : ¬ (a ≠ 1 ∨ c ≠ d) := fun hc => h (hb.2 hc)
      exact k21 _ (by simp; omega)
    refine rd1 ?_
    rw [bin_neq, bo_some, br_bool]
    split
    ·rename_i h
     exact k5 true (by simp at h; simp [h])
    ·rename_i h
     refine rd2 (rd3 ?_)
     rw [bin_neq, bo_some]
     exact k5 _ (by simp at h; simp [h])
   ·rename_i h22
    have h22 : n.op ≠ 22 := by simpa using h22
    rw [bin_eql, bo_some, br_bool]
    split
    ·rename_i h23
     have h23 : n.op = 23 := by simpa using h23
     have hf := finS_of (l := l) (k := k) (by omega) hv
     have hl : k.length = 2 := by
      have := ar_len (m := 2) har (by rw [h23]; decide) (by decide)
      omega
     obtain ⟨a, c, rfl⟩ := len2 hl
     have hvo : validOperandsS n.op [a, c] = (decide (a = 2) && decide (c = 1)) := by
      rw [vo_fix har (by omega) (by omega) h22]
      have : operandSortsS n.op = [2, 1] := by rw [h23]; decide
      rw [this]; simp [matchS]
     rw [hvo, if_neg (show ¬ n.op = 31 by omega), if_neg (show ¬ (n.op = 26 ∨ n.op = 27 ∨ n.op = 28 ∨ n.op = 29 ∨ n.op = 30) by omega), if_neg h22, if_neg h3] at hf
     have k6 : ∀ b : Bool, b = (decide (a = 2) && decide (c = 1)) → r7_nodeSort.p6 (fun v1 _ => v1 = .int .i64 (finS l n [a, c])) (.bool b) s := by
      intro b hb
      refine r7_nodeSort.p6_s fun _ => rf_sortIf ?_
      show _ = _
      rw [hf, ← hb]; cases b <;> rfl
     refine rd1 ?_
     rw [bin_eql, bo_some, br_bool]
     split
     ·rename_i h
      refine rd2 ?_
      rw [bin_eql, bo_some]
      exact k6 _ (by rw [h]; rfl)
     ·rename_i h
      exact k6 _ (by simp at h; simp [h])
    ·rename_i h23
     have h23 : n.op ≠ 23 := by simpa using h23
     rw [bin_eql, bo_some, br_bool]
     split
     ·rename_i h24
      have h24 : n.op = 24 := by simpa using h24
      have hf := finS_of (l := l) (k := k) (by omega) hv
      have hl : k.length = 1 := by
       have := ar_len (m := 1) har (by rw [h24]; decide) (by decide)
       omega
      obtain ⟨a, rfl⟩ := len1 hl
      have hvo : validOperandsS n.op [a] = decide (a = 2) := by
       rw [vo_fix har (by omega) (by omega) h22]
       have : operandSortsS n.op = [2] := by rw [h24]; decide
       rw [this]; simp [matchS]
      rw [hvo, if_neg (show ¬ n.op = 31 by omega), if_neg (show ¬ (n.op = 26 ∨ n.op = 27 ∨ n.op = 28 ∨ n.op = 29 ∨ n.op = 30) by omega), if_neg h22, if_neg h3] at hf
      refine rd1 ?_
      rw [bin_eql, bo_some]
      refine rf_sortIf ?_
      show _ = _
      rw [hf]; cases decide (a = 2) <;> rfl
     ·rename_i h24
      have h24 : n.op ≠ 24 := by simpa using h24
      rw [bin_eql, bo_some, br_bool]
      split
      ·rename_i h25'
       have h25' : n.op = 25 := by simpa using h25'
       have hl : k.length = 1 := by
        have := ar_len (m := 1) har (by rw [h25']; decide) (by decide)
        omega
       obtain ⟨a, rfl⟩ := len1 hl
       have hvo : validOperandsS n.op [a] = decide (a = 3) := by
        rw [vo_fix har (by omega) (by omega) h22]
        have : operandSortsS n.op = [3] := by rw [h25']; decide
        rw [this]; simp [matchS]
       have hf : finS l n [a] = if decide (a = 3) = false ∨ validImmS l n = false then 0 else if n.imm = 0 then 2 else 1 := by
        unfold finS
        rw [hvo, if_neg (show ¬ n.op = 31 by omega), if_neg (show ¬ (n.op = 26 ∨ n.op = 27 ∨ n.op = 28 ∨ n.op = 29 ∨ n.op = 30) by omega), if_neg h22, if_neg h3, if_pos h25']
       have k7 : ∀ b : Bool, (b = true ↔ (decide (a = 3) = false ∨ validImmS l n = false)) → r7_nodeSort.p7 (fun v1 _ => v1 = .int .i64 (finS l n [a])) (.ptr 0 0 0 3) (.bool b) s := by
        intro b hb
        refine r7_nodeSort.p7_s fun _ => ?_
        rw [br_bool]
        split
        ·rename_i h; show _ = _; rw [hf, if_pos (hb.1 h)]
        ·rename_i h
         rw [if_neg fun hc => h (hb.2 hc)] at hf
         refine fld hs (Nat.le_refl _) (by decide) rfl ?_
         rw [bin_eql, bo_some]
         refine rf_sortIf ?_
         by_cases h0 : n.imm = 0
         ·rw [decide_eq_true h0, if_pos rfl, bin_add (by decide) (by decide), bo_some]
          show _ = _; rw [hf, if_pos h0]; rfl
         ·rw [decide_eq_false h0, if_neg (by simp), bin_add (by decide) (by decide), bo_some]
          show _ = _; rw [hf, if_neg h0]; rfl
       refine rd1 ?_
       rw [bin_neq, bo_some, br_bool]
       split
       ·rename_i h
        exact k7 true (by simp at h; simp [h])
       ·rename_i h
        have ha : a = 3 := by simpa using h
        subst ha
        obtain ⟨⟨q1, q2, q3, q4⟩, q5, q6, q7⟩ := h25 h25' rfl
        refine fld hs (Nat.le_refl _) (by decide) rfl ?_
        refine fld hs (Nat.le_refl _) (by decide) rfl ?_
        refine get_int (i := 0) q1 ?_
        rw [vIaddr_nodesi q2 q3]
        simp only [bo_some, vFaddr_lptr, List.drop_succ_cons, List.drop_zero, load_lptr', vLen_eS]
        generalize hL : (l.getD (n.kids.getD 0 0).toNat default).kids.length = L at q4 q5 q6 q7
        have hq : (L : Int).tdiv 2 = ((L / 2 : Nat) : Int) := rfl
        rw [bin_quo (by decide) (by rw [hq]; omega) (by rw [hq]; omega), bo_some, bin_geq, bo_some, hq]
        refine k7 _ ?_
        have hlv : lv L = L / 2 := by unfold lv; omega
        have hvi : validImmS l n = (decide (0 ≤ n.imm) && decide (n.imm ≤ (lv L : Int) - 1)) := by
         unfold validImmS
         rw [if_neg (by omega), if_neg (by omega), if_neg (by omega), if_neg h3, if_neg (by omega), if_neg (by omega), if_neg (by omega), if_pos h25', hL]
        have hv0 : 0 ≤ n.imm := by
         unfold validImmR maxImmS at hv
         rw [h25'] at hv
         simp at hv
         exact hv.1
        rw [hvi, hlv, decide_eq_true hv0]
        simp
        omega
      ·rename_i h25'
       have h25' : n.op ≠ 25 := by simpa using h25'
       rw [bin_eql, bo_some, br_bool, bin_eql, bo_some]
       split
       ·rename_i h; exact rf_ns_p8 hb hs har hv ⟨h3, h26, h22, h23, h24, h25'⟩ _ (by simp at h; simp [h])
       ·rename_i h; exact rf_ns_p8 hb hs har hv ⟨h3, h26, h22, h23, h24, h25'⟩ _ (by simp at h; simp [h])
theorem r7_nodeSort_pu {l : List Node} {n : Node} {k : List Int} (hb : k.length < 1073741824) (hkl : k.length = n.kids.length) (h25 : n.op = 25 → k.getD 0 0 = 3 → LoopOk l n) (hk3 : ∀ x ∈ k, x = 1 ∨ x = 2 ∨ x = 3) :
  Pu Pg F.r7_nodeSort [eNodes l, .agg (eN n), eInts k] (.int .i64 (finS l n k)) := by
 refine Pu.fl r7_nodeSort_k rfl (r7_nodeSort_c (r7_nodeSort.p0_s fun hw => ?_))
 refine is_nil.box rfl fun s h => ?_
 have hs : s.h.get 0 = some (.row (eN n) 0 0) := h.get 0
 show bo (vFaddr 0 (.ptr 0 0 0 3)) _
 refine fld hs (Nat.le_refl _) (by decide) rfl ?_
 refine (r7_Arity_pu n.op).c (.cons (.int _ _) .nil) ?_
 simp only [vExtract, List.getElem?_cons_zero, List.getElem?_cons_succ, bo_some, un_not]
 have h0 : ∀ x, validImmR n.op n.imm = false → n.op ≠ 25 → finS l n x = 0 := by
  intro x hv h
  unfold finS
  rw [vi_eq h, hv, if_pos (Or.inr rfl)]
 have hbad : arBad n.op k → finS l n k = 0 := by
  intro h
  unfold finS
  rw [vo_bad h, if_pos (Or.inl rfl)]
 have k3 : ∀ b : Bool, (b = true ↔ arBad n.op k) → r7_nodeSort.p3 (fun v1 _ => v1 = .int .i64 (finS l n k)) (eNodes l) (eInts k) (.ptr 0 0 0 3) (.bool b) s := by
  intro b hb2
  refine r7_nodeSort.p3_s fun _ => ?_
  rw [br_bool]
  split
  ·rename_i hx; exact rf_ns_p4t (hbad (hb2.1 hx))
  ·rename_i hx
   have har : ¬ arBad n.op k := fun hc => hx (hb2.2 hc)
   refine fld hs (Nat.le_refl _) (by decide) rfl ?_
   refine fld hs (Nat.le_refl _) (by decide) rfl ?_
   refine (r7_ValidImm_pu _ _).c (.cons (.int _ _) (.cons (.int _ _) .nil)) ?_
   rw [un_not, bo_some]
   cases hv : validImmR n.op n.imm with
   | true => exact rf_ns_p4 hb hs hkl har hv h25 hk3
   | false =>
    refine rf_ns_p4t ?_
    by_cases h : n.op = 25
    ·have hl : k.length = 1 := by
      have := ar_len (m := 1) har (by rw [h]; decide) (by decide)
      omega
     obtain ⟨a, rfl⟩ := len1 hl
     have hvo : validOperandsS n.op [a] = decide (a = 3) := by
      rw [vo_fix har (by omega) (by omega) (by omega)]
      have : operandSortsS n.op = [3] := by rw [h]; decide
      rw [this]; simp [matchS]
     unfold finS
     rw [hvo]
     by_cases ha : a = 3
     ·subst ha
      obtain ⟨_, _, _, q7⟩ := h25 h rfl
      have hvi : validImmS l n = false := by
       unfold validImmR maxImmS at hv
       rw [h] at hv
       simp at hv
       unfold validImmS
       rw [if_neg (by omega), if_neg (by omega), if_neg (by omega), if_neg (by omega), if_neg (by omega), if_neg (by omega), if_neg (by omega), if_pos h]
       by_cases h0 : 0 ≤ n.imm
       ·have := hv h0
        rw [decide_eq_false (show ¬ n.imm ≤ _ by omega), Bool.and_false]
       ·rw [decide_eq_false h0, Bool.false_and]
      rw [if_pos (Or.inr hvi)]
     ·rw [if_pos (Or.inl (decide_eq_false ha))]
    ·exact h0 k hv h
 cases h2 : (arityS n.op).2 with
 | false =>
  simp only [Bool.not_false, gF_bool, if_true]
  refine r7_nodeSort.p1_s fun _ => ?_
  rw [gT_undef]
  refine r7_nodeSort.p2_s fun _ => ?_
  rw [br_bool, if_pos rfl]
  exact k3 true (by simp [arBad, h2])
 | true =>
  simp only [Bool.not_true, gF_bool, Bool.false_eq_true, if_false, bin_geq, bo_some]
  refine r7_nodeSort.p1_s fun _ => ?_
  rw [gT_bool]
  split
  ·rename_i h0
   have h0 : 0 ≤ (arityS n.op).1 := by simpa using h0
   refine fld hs (Nat.le_refl _) (by show 0 + 2 + 1 ≤ 3; decide) rfl ?_
   rw [vLen_eS, bo_some, bin_neq, bo_some]
   refine r7_nodeSort.p2_s fun _ => ?_
   rw [br_bool, if_neg (by simp), decide_eq_true h0, vPick_t, bo_some]
   exact k3 _ (by simp [arBad, h2, h0, hkl]; omega)
  ·rename_i h0
   have h0 : ¬ 0 ≤ (arityS n.op).1 := by simpa using h0
   refine r7_nodeSort.p2_s fun _ => ?_
   rw [br_bool, if_neg (by simp), decide_eq_false h0, vPick_f, bo_some]
   exact k3 false (by simp [arBad, h2, h0])
end Go.Am.YtmjaimpkjjkliaaGreat
namespace Go.Am.YtmjaimpkjjkliaaGreat
open Go.Proofs
theorem finS_22 {op : Int} {k : List Int} (h22 : op = 22) (hv : validOperandsS op k = true) : k.getD 1 0 = 1 ∨ k.getD 1 0 = 2 := by
 have hl : k.length = 3 := by
  have h := vo22 hv h22
  unfold validOperandsS at hv
  split at hv
  ·simp at hv
  ·rename_i hn
   simp only [not_or, not_and, Decidable.not_not] at hn
   have e : (arityS 22).1 = 3 := by decide
   rw [h22, e] at hn
   have := hn.2 (by decide); omega
 obtain ⟨a, c, d, rfl⟩ := len3 hl
 unfold validOperandsS at hv
 split at hv
 ·simp at hv
 ·rw [if_neg (show ¬ op = 31 by omega), if_neg (show ¬ op = 30 by omega)] at hv
  split at hv
  ·rename_i h; exact .inr h.2
  ·have : operandSortsS op = [1, 1, 1] := by rw [h22]; decide
   rw [this] at hv
   simp [matchS] at hv
   exact .inl hv.2.1
theorem finS_range (l : List Node) (n : Node) (k : List Int) : finS l n k = 0 ∨ finS l n k = 1 ∨ finS l n k = 2 ∨ finS l n k = 3 := by
 unfold finS
 split
 ·exact .inl rfl
 ·rename_i hv
  have hvo : validOperandsS n.op k = true := by
   cases h : validOperandsS n.op k with
   | true => rfl
   | false => exact absurd (.inl h) hv
  split
  ·exact .inr (.inr (.inr rfl))
  ·split
   ·exact .inr (.inr (.inl rfl))
   ·split
    ·rename_i h; have := finS_22 h hvo; omega
    ·split
     ·split
      ·exact .inr (.inr (.inl rfl))
      ·exact .inr (.inl rfl)
     ·split
      ·split
       ·exact .inr (.inr (.inl rfl))
       ·exact .inr (.inl rfl)
      ·exact .inr (.inl rfl)
theorem finS_3 {l : List Node} {n : Node} {k : List Int} (h : finS l n k = 3) : n.op = 31 ∧ validOperandsS n.op k = true := by
 unfold finS at h
 split at h
 ·simp at h
 ·rename_i hv
  have hvo : validOperandsS n.op k = true := by
   cases h : validOperandsS n.op k with
   | true => rfl
   | false => exact absurd (.inl h) hv
  split at h
  ·rename_i h31; exact ⟨h31, hvo⟩
  ·split at h
   ·simp at h
   ·split at h
    ·rename_i h22; have := finS_22 h22 hvo; omega
    ·split at h
     ·split at h <;> simp at h
     ·split at h
      ·split at h <;> simp at h
      ·simp at h
theorem sortN_range (l : List Node) (j : Nat) : sortN l j = 0 ∨ sortN l j = 1 ∨ sortN l j = 2 ∨ sortN l j = 3 := by
 unfold sortN sortAt
 split
 ·exact .inl rfl
 ·exact finS_range _ _ _
theorem sortN_loop {l : List Node} {j : Nat} (h : sortN l j = 3) : (l.getD j default).kids.length % 2 = 1 ∧ 3 ≤ (l.getD j default).kids.length ∧ lv (l.getD j default).kids.length ≤ 16 := by
 unfold sortN sortAt at h
 split at h
 ·simp at h
 ·rename_i s hs
  obtain ⟨h31, hv⟩ := finS_3 h
  have hl := kidS_len hs
  unfold validOperandsS at hv
  split at hv
  ·simp at hv
  ·try rw [if_pos h31] at hv
   simp only [Bool.and_eq_true, decide_eq_true_eq] at hv
   rw [hl] at hv
   omega
theorem kidS_vals {i : Nat} {known : List Int} : ∀ {ks s : List Int}, kidS i known ks = some s → ∀ x ∈ s, ∃ k ∈ ks, 0 ≤ k ∧ k < i ∧ x = known.getD k.toNat 0 ∧ x ≠ 0 := by
 intro ks
 induction ks with
 | nil => intro s h x hx; simp [kidS] at h; subst h; simp at hx
 | cons k ks ih =>
  intro s h x hx
  unfold kidS at h
  split at h
  ·simp at h
  ·rename_i hn
   cases hk : kidS i known ks with
   | none => simp [hk] at h
   | some t =>
    simp [hk] at h; subst h
    rcases List.mem_cons.1 hx with rfl | hm
    ·exact ⟨k, List.mem_cons_self, by omega, by omega, by simp [List.getD], by simp only [not_or] at hn; simpa [List.getD] using hn.2.2⟩
    ·obtain ⟨k', h1, h2⟩ := ih hk x hm
     exact ⟨k', List.mem_cons_of_mem _ h1, h2⟩
theorem kidS_hd {i : Nat} {known : List Int} {ks s : List Int} (h : kidS i known ks = some s) (h0 : 0 < ks.length) : 0 ≤ ks.getD 0 0 ∧ ks.getD 0 0 < i ∧ s.getD 0 0 = known.getD (ks.getD 0 0).toNat 0 := by
 cases ks with
 | nil => simp at h0
 | cons k ks =>
  unfold kidS at h
  split at h
  ·simp at h
  ·rename_i hn
   cases hk : kidS i known ks with
   | none => simp [hk] at h
   | some t => simp [hk] at h; subst h; refine ⟨?_, ?_, ?_⟩ <;> simp [List.getD] <;> omega
theorem loop_ok {l : List Node} {i : Nat} (hi : i < l.length) (hlen : ∀ k, (l.getD k default).kids.length < 1073741824) {s : List Int} (h : kidS i (sortsS l i) (l.getD i default).kids = some s) :
  (l.getD i default).op = 25 → s.getD 0 0 = 3 → LoopOk l (l.getD i default) := by
 intro _ h3
 have h0 : 0 < (l.getD i default).kids.length := by
  rw [← kidS_len h]
  rcases Nat.eq_zero_or_pos s.length with hc | hc
  ·have : s = [] := by simpa using hc
   subst this; simp at h3
  ·exact hc
 obtain ⟨g1, g2, g3⟩ := kidS_hd h h0
 rw [g3, sortsS_get (by omega)] at h3
 obtain ⟨p1, p2, p3⟩ := sortN_loop h3
 exact ⟨⟨h0, g1, by omega, hlen _⟩, p1, p2, p3⟩
theorem rf_so_p2 {l : List Node} {i : Nat} (hi : i < l.length) (hb : l.length < 1073741824) {n : Node} (hn : l.getD i default = n) (hkb : n.kids.length < 1073741824) {R : V → S → Prop} {v : V} :
  ∀ m j, n.kids.length - j = m → j ≤ n.kids.length → ∀ (a : List Int) (w : V) (s : S), a.length = j →
   (match kidS i (sortsS l i) n.kids with | none => kidS i (sortsS l i) (n.kids.drop j) = none | some t => kidS i (sortsS l i) (n.kids.drop j) = some (t.drop j) ∧ a = t.take j) →
   Ls s 1 w (a.map fun n => V.int .i64 n) a.length → Ls s 1 v ((sortsS l i).map fun n => V.int .i64 n) i → (∀ id, idOf v id → ¬ idOf w id) →
   (∀ w' s', kidS i (sortsS l i) n.kids = none → WF s' → Ls s' 1 v ((sortsS l i).map fun n => V.int .i64 n) i → r7_Sorts.p3 R (eNodes l) v (.int .i64 (i : Int)) w' (.bool false) s') →
   (∀ w' s' t, kidS i (sortsS l i) n.kids = some t → WF s' → Ls s' 1 v ((sortsS l i).map fun n => V.int .i64 n) i → Ls s' 1 w' (t.map fun n => V.int .i64 n) t.length → r7_Sorts.p3 R (eNodes l) v (.int .i64 (i : Int)) w' (.bool true) s') →
   r7_Sorts.p2 R (eNodes l) v (.int .i64 (i : Int)) w (.bool true) (.int .i64 (j : Int)) s := by
 intro m
 induction m with
 | zero =>
  intro j hm hj a w s ha hinv hW hL hd hF hT
  obtain rfl : j = n.kids.length := by omega
  refine r7_Sorts.p2_s fun hw => ?_
  rw [vIaddr_nodes hi, hn]
  simp only [bo_some, vFaddr_lptr, List.drop_succ_cons, List.drop_zero, load_lptr', vLen_eS, bin_lss, br_bool, decide_eq_true_eq, Int.ofNat_lt, Nat.lt_irrefl, if_false]
  have hks : kidS i (sortsS l i) n.kids = some a := by
   cases h : kidS i (sortsS l i) n.kids with
   | none => rw [h] at hinv; simp [kidS] at hinv
   | some t =>
    rw [h] at hinv
    simp only [List.drop_length] at hinv
    rw [hinv.2, List.take_of_length_le (by rw [kidS_len h]; exact Nat.le_refl _)]
  exact hT w s a hks hw hL hW
 | succ m ih =>
  intro j hm hj a w s ha hinv hW hL hd hF hT
  have h1 : j < n.kids.length := by omega
  refine r7_Sorts.p2_s fun hw => ?_
  rw [vIaddr_nodes hi, hn]
  simp only [bo_some, vFaddr_lptr, List.drop_succ_cons, List.drop_zero, load_lptr', vLen_eS, bin_lss, br_bool, decide_eq_true_eq, Int.ofNat_lt]
  rw [if_pos h1]
  refine get_int h1 ?_
  simp only [bin_lss, bin_geq, bo_some, br_bool, decide_eq_true_eq]
  have hdr := drop_getD n.kids j h1
  rw [show n.kids.getD j default = n.kids.getD j 0 from rfl] at hdr
  generalize hkj : n.kids.getD j 0 = kj at hdr ⊢
  have hnone : (kj < 0 ∨ (i : Int) ≤ kj ∨ (sortsS l i).getD kj.toNat 0 = 0) → kidS i (sortsS l i) n.kids = none := by
   intro hc
   cases h : kidS i (sortsS l i) n.kids with
   | none => rfl
   | some t =>
    rw [h] at hinv
    have := hinv.1
    rw [hdr] at this
    unfold kidS at this
    rw [if_pos hc] at this
    simp at this
  have hp6 : ∀ b : Bool, (b = true ↔ (kj < 0 ∨ (i : Int) ≤ kj ∨ (sortsS l i).getD kj.toNat 0 = 0)) → r7_Sorts.p6 R (eNodes l) v (.int .i64 (i : Int)) w (.bool true) (.int .i64 (j : Int)) (.int .i64 kj) (.bool b) s := by
   intro b hb2
   refine r7_Sorts.p6_s fun _ => ?_
   cases b with
   | true =>
    rw [br_bool, if_pos rfl]
    exact hF w s (hnone (hb2.1 rfl)) hw hL
   | false =>
    have hok : ¬ (kj < 0 ∨ (i : Int) ≤ kj ∨ (sortsS l i).getD kj.toNat 0 = 0) := fun h => by simpa using hb2.2 h
    rw [br_bool, if_neg (by simp)]
    obtain ⟨y, rfl⟩ := Int.eq_ofNat_of_zero_le (show 0 ≤ kj by omega)
    have hyi : y < i := by omega
    refine get_one hL hyi (c := .int .i64 ((sortsS l i).getD y 0)) (by simp [List.getD, sortsS_len, hyi]) ?_
    refine app_one (new := [.int .i64 ((sortsS l i).getD y 0)]) hW hw rfl rfl rfl (by decide) (by omega) fun w' s' hw' hW' hK hid => ?_
    rw [bin_inc (by omega), bo_some]
    refine ih (j + 1) (by omega) (by omega) (a ++ [(sortsS l i).getD y 0]) w' s' (by simp [ha]) ?_ ?_ (hL.keep hK fun id hi hc => hd id hi hc) ?_ hF hT
    ·cases h : kidS i (sortsS l i) n.kids with
     | none =>
      rw [h] at hinv
      simp only at hinv ⊢
      rw [hdr] at hinv
      unfold kidS at hinv
      rw [if_neg hok] at hinv
      cases h2 : kidS i (sortsS l i) (n.kids.drop (j + 1)) with
      | none => rfl
      | some t => rw [h2] at hinv; simp at hinv
     | some t =>
      rw [h] at hinv
      simp only at hinv ⊢
      obtain ⟨hi1, hi2⟩ := hinv
      rw [hdr] at hi1
      unfold kidS at hi1
      rw [if_neg hok] at hi1
      have hlt : j < t.length := by rw [kidS_len h]; exact h1
      rw [drop_getD t j hlt] at hi1
      cases h2 : kidS i (sortsS l i) (n.kids.drop (j + 1)) with
      | none => rw [h2] at hi1; simp at hi1
      | some u =>
       rw [h2] at hi1
       simp only [Option.map_some, Option.some.injEq, List.cons.injEq] at hi1
       refine ⟨by rw [hi1.2], ?_⟩
       rw [take_getD t j hlt, hi2, ← hi1.1]
       rfl
    ·rw [map_int_append]
     simpa using hW'
    ·intro id hv hc
     rcases hid id hc with h | h
     ·exact hd id hv h
     ·rcases hL.2 with ⟨rfl, _⟩ | ⟨id0, ep, wr, rfl, hg, _⟩
      ·exact hv
      ·cases hv
       have := hw.lt hg; omega
  split
  ·rename_i hneg
   refine r7_Sorts.p5_s fun _ => ?_
   rw [br_bool, if_pos rfl]
   exact hp6 true (by simp [hneg])
  ·rename_i hneg
   refine r7_Sorts.p5_s fun _ => ?_
   rw [br_bool]
   split
   ·rename_i hge
    exact hp6 true (by simp at hge; simp [hge])
   ·rename_i hge
    have hge : ¬ (i : Int) ≤ kj := by simpa using hge
    obtain ⟨y, rfl⟩ := Int.eq_ofNat_of_zero_le (show 0 ≤ kj by omega)
    have hyi : y < i := by omega
    refine get_one hL hyi (c := .int .i64 ((sortsS l i).getD y 0)) (by simp [List.getD, sortsS_len, hyi]) ?_
    rw [bin_eql, bo_some]
    exact hp6 _ (by simp only [decide_eq_true_eq]; constructor <;> intro h <;> first | exact .inr (.inr h) | (rcases h with h | h | h <;> first | (exfalso; omega) | exact h))
theorem rf_so_p1 {l : List Node} (hb : l.length < 1073741824) (hlen : ∀ k, (l.getD k default).kids.length < 1073741824) {R : V → S → Prop} (hR : ∀ v s, Ls s 1 v ((sortsS l l.length).map fun n => V.int .i64 n) l.length → R v s) :
  ∀ m i, l.length - i = m → i ≤ l.length → ∀ v s, Ls s 1 v ((sortsS l i).map fun n => V.int .i64 n) i → r7_Sorts.p1 R (eNodes l) v (.int .i64 (i : Int)) s := by
 intro m
 induction m with
 | zero =>
  intro i hm hi v s hL
  obtain rfl : i = l.length := by omega
  refine r7_Sorts.p1_s fun hw => ?_
  simp only [vLen_eS, bin_lss, bo_some, br_bool, decide_eq_true_eq, Int.ofNat_lt, Nat.lt_irrefl, if_false]
  exact hR v s hL
 | succ m ih =>
  intro i hm hi v s hL
  have h1 : i < l.length := by omega
  refine r7_Sorts.p1_s fun hw => ?_
  simp only [vLen_eS, bin_lss, bo_some, br_bool, decide_eq_true_eq, Int.ofNat_lt]
  rw [if_pos h1]
  have hnext : ∀ v' s', Ls s' 1 v' ((sortsS l i).map (fun n => V.int .i64 n) ++ [.int .i64 (sortAt l i (sortsS l i))]) (i + 1) → r7_Sorts.p4 R (eNodes l) v' (.int .i64 (i : Int)) s' := by
   intro v' s' hL'
   refine r7_Sorts.p4_s fun _ => ?_
   rw [bin_inc (by omega), bo_some]
   refine ih (i + 1) (by omega) (by omega) v' s' ?_
   rw [← map_int_append] at hL'
   exact hL'
  refine rf_so_p2 (n := l.getD i default) h1 hb rfl (hlen i) _ 0 rfl (Nat.zero_le _) [] .nils s rfl ?_ .nil hL (fun _ _ h => h) (fun w' s' hk hw' hL' => ?_) (fun w' s' t hk hw' hL' hW' => ?_)
  ·cases h : kidS i (sortsS l i) (l.getD i default).kids with
   | none => simpa using h
   | some t => simpa using h
  ·refine r7_Sorts.p3_s fun _ => ?_
   rw [br_bool, if_neg (by simp)]
   refine app_one (new := [.int .i64 0]) hL' hw' rfl rfl rfl (by decide) (by omega) fun v'' s'' hw'' hL'' _ _ => ?_
   refine hnext v'' s'' ?_
   have : sortAt l i (sortsS l i) = 0 := by unfold sortAt; rw [hk]
   rw [this]; exact hL''
  ·refine r7_Sorts.p3_s fun _ => ?_
   rw [br_bool, if_pos rfl, vIaddr_nodes h1, bo_some, load_lptrk (by simp), bo_some]
   have hns := r7_nodeSort_pu (l := l) (n := l.getD i default) (k := t) (by rw [kidS_len hk]; exact hlen i) (kidS_len hk) (loop_ok h1 hlen hk) (fun x hx => by
    obtain ⟨k, _, g1, g2, g3, g4⟩ := kidS_vals hk x hx
    rw [sortsS_get (by omega)] at g3
    have := sortN_range l k.toNat
    rw [← g3] at this
    omega)
   refine hns.s rfl (.cons (cv_nodes l).fz (.cons (Cv.agg (.refl (eN_cv _))).fz (.cons hW'.ints .nil))) ?_
   refine app_one (new := [.int .i64 (finS l (l.getD i default) t)]) hL' hw' rfl rfl rfl (by decide) (by omega) fun v'' s'' hw'' hL'' _ _ => ?_
   refine hnext v'' s'' ?_
   have : sortAt l i (sortsS l i) = finS l (l.getD i default) t := by unfold sortAt; rw [hk]
   rw [this]; exact hL''
theorem r7_Sorts_pu {l : List Node} (hb : l.length < 1073741824) (hlen : ∀ k, (l.getD k default).kids.length < 1073741824) : Pu Pg F.r7_Sorts [eNodes l] (eInts (sortsS l l.length)) := by
 refine Pu.fz r7_Sorts_k (r7_Sorts_c (r7_Sorts.p0_s fun hw => ?_))
 exact rf_so_p1 hb hlen (fun v s hL => hL.ints) l.length 0 rfl (Nat.zero_le _) _ _ .nil
end Go.Am.YtmjaimpkjjkliaaGreat
