/- Chapter 7, the reference: a node's sort, all sorts, Sort, Dependencies. -/
import Derived.Test.YtmjaimpkjjkliaaKf
namespace Go.Am.Ytmjaimpkjjkliaa
open Go.Proofs
set_option linter.unusedVariables false

theorem or_false' {b : Bool} {G : Bool → Prop} {c : Bool} (h : G (b && c)) (hb : b = true) : G c := by subst hb; exact h

/-- The middle operations. -/
theorem rf_ns_p4 {l : List Node} {n : Node} {k : List Int} {s : S} (hb : k.length < 1073741824) (hs : s.h.get 0 = some (.row (eN n) 0 0)) (hkl : k.length = n.kids.length) (har : ¬ arBad n.op k) (hv : validImmR n.op n.imm = true)
    (h25 : n.op = 25 → k.getD 0 0 = 3 → LoopOk l n) (hk3 : ∀ x ∈ k, x = 1 ∨ x = 2 ∨ x = 3) : fullingref7_nodeSort.p4 (fun v1 _ => v1 = .int .i64 (finS l n k)) (eNodes l) (eInts k) (.ptr 0 0 0 3) (.bool false) s := by
  refine fullingref7_nodeSort.p4_s fun _ => ?_
  rw [br_bool, if_neg (by simp)]
  refine fld hs (Nat.le_refl _) (by decide) rfl ?_
  rw [bin_eql, bo_some, br_bool]
  split
  · rename_i h3
    have h3 : n.op = 3 := by simpa using h3
    have hf := finS_of (l := l) (k := k) (by omega) hv
    have hl : k.length = 0 := by
      have := ar_len (m := 0) har (by rw [h3]; decide) (by decide)
      omega
    have hk : k = [] := by simpa using hl
    subst hk
    rw [vo_fix har (by omega) (by omega) (by omega), show matchS [] (operandSortsS n.op) = true from rfl, if_neg (by simp), if_neg (show ¬ n.op = 31 by omega), if_neg (show ¬ (n.op = 26 ∨ n.op = 27 ∨ n.op = 28 ∨ n.op = 29 ∨ n.op = 30) by omega),
      if_neg (show ¬ n.op = 22 by omega), if_pos h3] at hf
    refine fld hs (Nat.le_refl _) (by decide) rfl ?_
    rw [bin_rem (by decide), bo_some, bin_eql, bo_some, br_bool]
    split
    · rename_i h; show _ = _; rw [hf, if_pos (by simpa using h)]
    · rename_i h; show _ = _; rw [hf, if_neg (by simpa using h)]
  · rename_i h3
    have h3 : n.op ≠ 3 := by simpa using h3
    rw [bin_eql, bo_some, br_bool]
    split
    · rename_i h26
      have h26 : n.op = 26 := by simpa using h26
      have hf := finS_of (l := l) (k := k) (by omega) hv
      have hl : k.length = 0 := by
        have := ar_len (m := 0) har (by rw [h26]; decide) (by decide)
        omega
      have hk : k = [] := by simpa using hl
      subst hk
      rw [vo_fix har (by omega) (by omega) (by omega), show matchS [] (operandSortsS n.op) = true from rfl, if_neg (by simp), if_neg (show ¬ n.op = 31 by omega), if_pos (show n.op = 26 ∨ n.op = 27 ∨ n.op = 28 ∨ n.op = 29 ∨ n.op = 30 by omega)] at hf
      show _ = _; rw [hf]
    · rename_i h26
      have h26 : n.op ≠ 26 := by simpa using h26
      rw [bin_eql, bo_some, br_bool]
      split
      · rename_i h22
        have h22 : n.op = 22 := by simpa using h22
        have hf := finS_of (l := l) (k := k) (by omega) hv
        have hl : k.length = 3 := by
          have := ar_len (m := 3) har (by rw [h22]; decide) (by decide)
          omega
        obtain ⟨a, c, d, rfl⟩ := len3 hl
        have hvo : validOperandsS n.op [a, c, d] = if c = 2 then (decide (a = 1) && decide (d = 2)) else (decide (a = 1) && decide (c = 1) && decide (d = 1)) := by
          unfold arBad at har
          unfold validOperandsS
          rw [if_neg har, if_neg (show ¬ n.op = 31 by omega), if_neg (show ¬ n.op = 30 by omega)]
          have : operandSortsS n.op = [1, 1, 1] := by rw [h22]; decide
          by_cases hc : c = 2
          · rw [if_pos ⟨h22, hc⟩, if_pos hc]; rfl
          · rw [if_neg (fun h => hc h.2), if_neg hc, this]; simp [matchS, Bool.and_assoc]
        rw [hvo, if_neg (show ¬ n.op = 31 by omega), if_neg (show ¬ (n.op = 26 ∨ n.op = 27 ∨ n.op = 28 ∨ n.op = 29 ∨ n.op = 30) by omega), if_pos h22] at hf
        have hspec : finS l n [a, c, d] = if a ≠ 1 ∨ c ≠ d ∨ c = 3 then 0 else c := by
          rw [hf]
          have hc := hk3 c (by simp)
          by_cases ha : a = 1 <;> by_cases hd : c = d
          · subst ha; subst hd
            rcases hc with rfl | rfl | rfl <;> rfl
          · rw [if_pos (Or.inr (Or.inl hd))]
            have hd' : ¬ d = c := fun e => hd e.symm
            rcases hc with rfl | rfl | rfl <;> simp [hd']
          · rw [if_pos (Or.inl ha)]
            simp [ha]
          · rw [if_pos (Or.inl ha)]
            simp [ha]
        have k21 : ∀ b : Bool, (b = true ↔ (a ≠ 1 ∨ c ≠ d ∨ c = 3)) → fullingref7_nodeSort.p21 (fun v1 _ => v1 = .int .i64 (finS l n [a, c, d])) (eInts [a, c, d]) (.bool b) s := by
          intro b hb
          refine fullingref7_nodeSort.p21_s fun _ => ?_
          rw [br_bool]
          split
          · rename_i h; show _ = _; rw [hspec, if_pos (hb.1 h)]
          · rename_i h
            refine rd2 ?_
            show _ = _
            rw [hspec, if_neg fun hc => h (hb.2 hc)]
        have k5 : ∀ b : Bool, (b = true ↔ (a ≠ 1 ∨ c ≠ d)) → fullingref7_nodeSort.p5 (fun v1 _ => v1 = .int .i64 (finS l n [a, c, d])) (eInts [a, c, d]) (.bool b) s := by
          intro b hb
          refine fullingref7_nodeSort.p5_s fun _ => ?_
          rw [br_bool]
          split
          · rename_i h
            have := hb.1 h
            exact k21 true (by simp; omega)
          · rename_i h
            refine rd2 ?_
            rw [bin_eql, bo_some]
            have hn : ¬ (a ≠ 1 ∨ c ≠ d) := fun hc => h (hb.2 hc)
            exact k21 _ (by simp; omega)
        refine rd1 ?_
        rw [bin_neq, bo_some, br_bool]
        split
        · rename_i h
          exact k5 true (by simp at h; simp [h])
        · rename_i h
          refine rd2 (rd3 ?_)
          rw [bin_neq, bo_some]
          exact k5 _ (by simp at h; simp [h])
      · rename_i h22
        have h22 : n.op ≠ 22 := by simpa using h22
        rw [bin_eql, bo_some, br_bool]
        split
        · rename_i h23
          have h23 : n.op = 23 := by simpa using h23
          have hf := finS_of (l := l) (k := k) (by omega) hv
          have hl : k.length = 2 := by
            have := ar_len (m := 2) har (by rw [h23]; decide) (by decide)
            omega
          obtain ⟨a, c, rfl⟩ := len2 hl
          have hvo : validOperandsS n.op [a, c] = (decide (a = 2) && decide (c = 1)) := by
            rw [vo_fix har (by omega) (by omega) h22]
            have : operandSortsS n.op = [2, 1] := by rw [h23]; decide
            rw [this]; simp [matchS]
          rw [hvo, if_neg (show ¬ n.op = 31 by omega), if_neg (show ¬ (n.op = 26 ∨ n.op = 27 ∨ n.op = 28 ∨ n.op = 29 ∨ n.op = 30) by omega), if_neg h22, if_neg h3] at hf
          have k6 : ∀ b : Bool, b = (decide (a = 2) && decide (c = 1)) → fullingref7_nodeSort.p6 (fun v1 _ => v1 = .int .i64 (finS l n [a, c])) (.bool b) s := by
            intro b hb
            refine fullingref7_nodeSort.p6_s fun _ => rf_sortIf ?_
            show _ = _
            rw [hf, ← hb]; cases b <;> rfl
          refine rd1 ?_
          rw [bin_eql, bo_some, br_bool]
          split
          · rename_i h
            refine rd2 ?_
            rw [bin_eql, bo_some]
            exact k6 _ (by rw [h]; rfl)
          · rename_i h
            exact k6 _ (by simp at h; simp [h])
        · rename_i h23
          have h23 : n.op ≠ 23 := by simpa using h23
          rw [bin_eql, bo_some, br_bool]
          split
          · rename_i h24
            have h24 : n.op = 24 := by simpa using h24
            have hf := finS_of (l := l) (k := k) (by omega) hv
            have hl : k.length = 1 := by
              have := ar_len (m := 1) har (by rw [h24]; decide) (by decide)
              omega
            obtain ⟨a, rfl⟩ := len1 hl
            have hvo : validOperandsS n.op [a] = decide (a = 2) := by
              rw [vo_fix har (by omega) (by omega) h22]
              have : operandSortsS n.op = [2] := by rw [h24]; decide
              rw [this]; simp [matchS]
            rw [hvo, if_neg (show ¬ n.op = 31 by omega), if_neg (show ¬ (n.op = 26 ∨ n.op = 27 ∨ n.op = 28 ∨ n.op = 29 ∨ n.op = 30) by omega), if_neg h22, if_neg h3] at hf
            refine rd1 ?_
            rw [bin_eql, bo_some]
            refine rf_sortIf ?_
            show _ = _
            rw [hf]; cases decide (a = 2) <;> rfl
          · rename_i h24
            have h24 : n.op ≠ 24 := by simpa using h24
            rw [bin_eql, bo_some, br_bool]
            split
            · rename_i h25'
              have h25' : n.op = 25 := by simpa using h25'
              have hl : k.length = 1 := by
                have := ar_len (m := 1) har (by rw [h25']; decide) (by decide)
                omega
              obtain ⟨a, rfl⟩ := len1 hl
              have hvo : validOperandsS n.op [a] = decide (a = 3) := by
                rw [vo_fix har (by omega) (by omega) h22]
                have : operandSortsS n.op = [3] := by rw [h25']; decide
                rw [this]; simp [matchS]
              have hf : finS l n [a] = if decide (a = 3) = false ∨ validImmS l n = false then 0 else if n.imm = 0 then 2 else 1 := by
                unfold finS
                rw [hvo, if_neg (show ¬ n.op = 31 by omega), if_neg (show ¬ (n.op = 26 ∨ n.op = 27 ∨ n.op = 28 ∨ n.op = 29 ∨ n.op = 30) by omega), if_neg h22, if_neg h3, if_pos h25']
              have k7 : ∀ b : Bool, (b = true ↔ (decide (a = 3) = false ∨ validImmS l n = false)) → fullingref7_nodeSort.p7 (fun v1 _ => v1 = .int .i64 (finS l n [a])) (.ptr 0 0 0 3) (.bool b) s := by
                intro b hb
                refine fullingref7_nodeSort.p7_s fun _ => ?_
                rw [br_bool]
                split
                · rename_i h; show _ = _; rw [hf, if_pos (hb.1 h)]
                · rename_i h
                  rw [if_neg fun hc => h (hb.2 hc)] at hf
                  refine fld hs (Nat.le_refl _) (by decide) rfl ?_
                  rw [bin_eql, bo_some]
                  refine rf_sortIf ?_
                  by_cases h0 : n.imm = 0
                  · rw [decide_eq_true h0, if_pos rfl, bin_add (by decide) (by decide), bo_some]
                    show _ = _; rw [hf, if_pos h0]; rfl
                  · rw [decide_eq_false h0, if_neg (by simp), bin_add (by decide) (by decide), bo_some]
                    show _ = _; rw [hf, if_neg h0]; rfl
              refine rd1 ?_
              rw [bin_neq, bo_some, br_bool]
              split
              · rename_i h
                exact k7 true (by simp at h; simp [h])
              · rename_i h
                have ha : a = 3 := by simpa using h
                subst ha
                obtain ⟨⟨q1, q2, q3, q4⟩, q5, q6, q7⟩ := h25 h25' rfl
                refine fld hs (Nat.le_refl _) (by decide) rfl ?_
                refine fld hs (Nat.le_refl _) (by decide) rfl ?_
                refine get_int (i := 0) q1 ?_
                rw [vIaddr_nodesi q2 q3]
                simp only [bo_some, vFaddr_lptr, List.drop_succ_cons, List.drop_zero, load_lptr', vLen_eS]
                generalize hL : (l.getD (n.kids.getD 0 0).toNat default).kids.length = L at q4 q5 q6 q7
                have hq : (L : Int).tdiv 2 = ((L / 2 : Nat) : Int) := rfl
                rw [bin_quo (by decide) (by rw [hq]; omega) (by rw [hq]; omega), bo_some, bin_geq, bo_some, hq]
                refine k7 _ ?_
                have hlv : lv L = L / 2 := by unfold lv; omega
                have hvi : validImmS l n = (decide (0 ≤ n.imm) && decide (n.imm ≤ (lv L : Int) - 1)) := by
                  unfold validImmS
                  rw [if_neg (by omega), if_neg (by omega), if_neg (by omega), if_neg h3, if_neg (by omega), if_neg (by omega), if_neg (by omega), if_pos h25', hL]
                have hv0 : 0 ≤ n.imm := by
                  unfold validImmR maxImmS at hv
                  rw [h25'] at hv
                  simp at hv
                  exact hv.1
                rw [hvi, hlv, decide_eq_true hv0]
                simp
                omega
            · rename_i h25'
              have h25' : n.op ≠ 25 := by simpa using h25'
              rw [bin_eql, bo_some, br_bool, bin_eql, bo_some]
              split
              · rename_i h; exact rf_ns_p8 hb hs har hv ⟨h3, h26, h22, h23, h24, h25'⟩ _ (by simp at h; simp [h])
              · rename_i h; exact rf_ns_p8 hb hs har hv ⟨h3, h26, h22, h23, h24, h25'⟩ _ (by simp at h; simp [h])

theorem fullingref7_nodeSort_pu {l : List Node} {n : Node} {k : List Int} (hb : k.length < 1073741824) (hkl : k.length = n.kids.length) (h25 : n.op = 25 → k.getD 0 0 = 3 → LoopOk l n) (hk3 : ∀ x ∈ k, x = 1 ∨ x = 2 ∨ x = 3) :
    Pu Pg F.fullingref7_nodeSort [eNodes l, .agg (eN n), eInts k] (.int .i64 (finS l n k)) := by
  refine Pu.fl fullingref7_nodeSort_k rfl (fullingref7_nodeSort_c (fullingref7_nodeSort.p0_s fun hw => ?_))
  refine is_nil.box rfl fun s h => ?_
  have hs : s.h.get 0 = some (.row (eN n) 0 0) := h.get 0
  show bo (vFaddr 0 (.ptr 0 0 0 3)) _
  refine fld hs (Nat.le_refl _) (by decide) rfl ?_
  refine (fullingref7_Arity_pu n.op).c (.cons (.int _ _) .nil) ?_
  simp only [vExtract, List.getElem?_cons_zero, List.getElem?_cons_succ, bo_some, un_not]
  have h0 : ∀ x, validImmR n.op n.imm = false → n.op ≠ 25 → finS l n x = 0 := by
    intro x hv h
    unfold finS
    rw [vi_eq h, hv, if_pos (Or.inr rfl)]
  have hbad : arBad n.op k → finS l n k = 0 := by
    intro h
    unfold finS
    rw [vo_bad h, if_pos (Or.inl rfl)]
  have k3 : ∀ b : Bool, (b = true ↔ arBad n.op k) → fullingref7_nodeSort.p3 (fun v1 _ => v1 = .int .i64 (finS l n k)) (eNodes l) (eInts k) (.ptr 0 0 0 3) (.bool b) s := by
    intro b hb2
    refine fullingref7_nodeSort.p3_s fun _ => ?_
    rw [br_bool]
    split
    · rename_i hx; exact rf_ns_p4t (hbad (hb2.1 hx))
    · rename_i hx
      have har : ¬ arBad n.op k := fun hc => hx (hb2.2 hc)
      refine fld hs (Nat.le_refl _) (by decide) rfl ?_
      refine fld hs (Nat.le_refl _) (by decide) rfl ?_
      refine (fullingref7_ValidImm_pu _ _).c (.cons (.int _ _) (.cons (.int _ _) .nil)) ?_
      rw [un_not, bo_some]
      cases hv : validImmR n.op n.imm with
      | true => exact rf_ns_p4 hb hs hkl har hv h25 hk3
      | false =>
        refine rf_ns_p4t ?_
        by_cases h : n.op = 25
        · have hl : k.length = 1 := by
            have := ar_len (m := 1) har (by rw [h]; decide) (by decide)
            omega
          obtain ⟨a, rfl⟩ := len1 hl
          have hvo : validOperandsS n.op [a] = decide (a = 3) := by
            rw [vo_fix har (by omega) (by omega) (by omega)]
            have : operandSortsS n.op = [3] := by rw [h]; decide
            rw [this]; simp [matchS]
          unfold finS
          rw [hvo]
          by_cases ha : a = 3
          · subst ha
            obtain ⟨_, _, _, q7⟩ := h25 h rfl
            have hvi : validImmS l n = false := by
              unfold validImmR maxImmS at hv
              rw [h] at hv
              simp at hv
              unfold validImmS
              rw [if_neg (by omega), if_neg (by omega), if_neg (by omega), if_neg (by omega), if_neg (by omega), if_neg (by omega), if_neg (by omega), if_pos h]
              by_cases h0 : 0 ≤ n.imm
              · have := hv h0
                rw [decide_eq_false (show ¬ n.imm ≤ _ by omega), Bool.and_false]
              · rw [decide_eq_false h0, Bool.false_and]
            rw [if_pos (Or.inr hvi)]
          · rw [if_pos (Or.inl (decide_eq_false ha))]
        · exact h0 k hv h
  cases h2 : (arityS n.op).2 with
  | false =>
    simp only [Bool.not_false, gF_bool, if_true]
    refine fullingref7_nodeSort.p1_s fun _ => ?_
    rw [gT_undef]
    refine fullingref7_nodeSort.p2_s fun _ => ?_
    rw [br_bool, if_pos rfl]
    exact k3 true (by simp [arBad, h2])
  | true =>
    simp only [Bool.not_true, gF_bool, Bool.false_eq_true, if_false, bin_geq, bo_some]
    refine fullingref7_nodeSort.p1_s fun _ => ?_
    rw [gT_bool]
    split
    · rename_i h0
      have h0 : 0 ≤ (arityS n.op).1 := by simpa using h0
      refine fld hs (Nat.le_refl _) (by show 0 + 2 + 1 ≤ 3; decide) rfl ?_
      rw [vLen_eS, bo_some, bin_neq, bo_some]
      refine fullingref7_nodeSort.p2_s fun _ => ?_
      rw [br_bool, if_neg (by simp), decide_eq_true h0, vPick_t, bo_some]
      exact k3 _ (by simp [arBad, h2, h0, hkl]; omega)
    · rename_i h0
      have h0 : ¬ 0 ≤ (arityS n.op).1 := by simpa using h0
      refine fullingref7_nodeSort.p2_s fun _ => ?_
      rw [br_bool, if_neg (by simp), decide_eq_false h0, vPick_f, bo_some]
      exact k3 false (by simp [arBad, h2, h0])
end Go.Am.Ytmjaimpkjjkliaa
