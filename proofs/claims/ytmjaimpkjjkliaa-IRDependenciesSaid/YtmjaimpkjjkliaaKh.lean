/- Chapter 7, the reference: all sorts, Sort, Dependencies; the same as the program's. -/
import Derived.Test.YtmjaimpkjjkliaaKg
namespace Go.Am.Ytmjaimpkjjkliaa
open Go.Proofs
set_option linter.unusedVariables false

theorem finS_22 {op : Int} {k : List Int} (h22 : op = 22) (hv : validOperandsS op k = true) : k.getD 1 0 = 1 ∨ k.getD 1 0 = 2 := by
  have hl : k.length = 3 := by
    have h := vo22 hv h22
    unfold validOperandsS at hv
    split at hv
    · simp at hv
    · rename_i hn
      simp only [not_or, not_and, Decidable.not_not] at hn
      have e : (arityS 22).1 = 3 := by decide
      rw [h22, e] at hn
      have := hn.2 (by decide); omega
  obtain ⟨a, c, d, rfl⟩ := len3 hl
  unfold validOperandsS at hv
  split at hv
  · simp at hv
  · rw [if_neg (show ¬ op = 31 by omega), if_neg (show ¬ op = 30 by omega)] at hv
    split at hv
    · rename_i h; exact .inr h.2
    · have : operandSortsS op = [1, 1, 1] := by rw [h22]; decide
      rw [this] at hv
      simp [matchS] at hv
      exact .inl hv.2.1
theorem finS_range (l : List Node) (n : Node) (k : List Int) : finS l n k = 0 ∨ finS l n k = 1 ∨ finS l n k = 2 ∨ finS l n k = 3 := by
  unfold finS
  split
  · exact .inl rfl
  · rename_i hv
    have hvo : validOperandsS n.op k = true := by
      cases h : validOperandsS n.op k with
      | true => rfl
      | false => exact absurd (.inl h) hv
    split
    · exact .inr (.inr (.inr rfl))
    · split
      · exact .inr (.inr (.inl rfl))
      · split
        · rename_i h; have := finS_22 h hvo; omega
        · split
          · split
            · exact .inr (.inr (.inl rfl))
            · exact .inr (.inl rfl)
          · split
            · split
              · exact .inr (.inr (.inl rfl))
              · exact .inr (.inl rfl)
            · exact .inr (.inl rfl)
theorem finS_3 {l : List Node} {n : Node} {k : List Int} (h : finS l n k = 3) : n.op = 31 ∧ validOperandsS n.op k = true := by
  unfold finS at h
  split at h
  · simp at h
  · rename_i hv
    have hvo : validOperandsS n.op k = true := by
      cases h : validOperandsS n.op k with
      | true => rfl
      | false => exact absurd (.inl h) hv
    split at h
    · rename_i h31; exact ⟨h31, hvo⟩
    · split at h
      · simp at h
      · split at h
        · rename_i h22; have := finS_22 h22 hvo; omega
        · split at h
          · split at h <;> simp at h
          · split at h
            · split at h <;> simp at h
            · simp at h
theorem sortN_range (l : List Node) (j : Nat) : sortN l j = 0 ∨ sortN l j = 1 ∨ sortN l j = 2 ∨ sortN l j = 3 := by
  unfold sortN sortAt
  split
  · exact .inl rfl
  · exact finS_range _ _ _
theorem sortN_loop {l : List Node} {j : Nat} (h : sortN l j = 3) : (l.getD j default).kids.length % 2 = 1 ∧ 3 ≤ (l.getD j default).kids.length ∧ lv (l.getD j default).kids.length ≤ 16 := by
  unfold sortN sortAt at h
  split at h
  · simp at h
  · rename_i s hs
    obtain ⟨h31, hv⟩ := finS_3 h
    have hl := kidS_len hs
    unfold validOperandsS at hv
    split at hv
    · simp at hv
    · try rw [if_pos h31] at hv
      simp only [Bool.and_eq_true, decide_eq_true_eq] at hv
      rw [hl] at hv
      omega
theorem kidS_vals {i : Nat} {known : List Int} : ∀ {ks s : List Int}, kidS i known ks = some s → ∀ x ∈ s, ∃ k ∈ ks, 0 ≤ k ∧ k < i ∧ x = known.getD k.toNat 0 ∧ x ≠ 0 := by
  intro ks
  induction ks with
  | nil => intro s h x hx; simp [kidS] at h; subst h; simp at hx
  | cons k ks ih =>
    intro s h x hx
    unfold kidS at h
    split at h
    · simp at h
    · rename_i hn
      cases hk : kidS i known ks with
      | none => simp [hk] at h
      | some t =>
        simp [hk] at h; subst h
        rcases List.mem_cons.1 hx with rfl | hm
        · exact ⟨k, List.mem_cons_self, by omega, by omega, by simp [List.getD], by simp only [not_or] at hn; simpa [List.getD] using hn.2.2⟩
        · obtain ⟨k', h1, h2⟩ := ih hk x hm
          exact ⟨k', List.mem_cons_of_mem _ h1, h2⟩
theorem kidS_hd {i : Nat} {known : List Int} {ks s : List Int} (h : kidS i known ks = some s) (h0 : 0 < ks.length) : 0 ≤ ks.getD 0 0 ∧ ks.getD 0 0 < i ∧ s.getD 0 0 = known.getD (ks.getD 0 0).toNat 0 := by
  cases ks with
  | nil => simp at h0
  | cons k ks =>
    unfold kidS at h
    split at h
    · simp at h
    · rename_i hn
      cases hk : kidS i known ks with
      | none => simp [hk] at h
      | some t => simp [hk] at h; subst h; refine ⟨?_, ?_, ?_⟩ <;> simp [List.getD] <;> omega
theorem loop_ok {l : List Node} {i : Nat} (hi : i < l.length) (hlen : ∀ k, (l.getD k default).kids.length < 1073741824) {s : List Int} (h : kidS i (sortsS l i) (l.getD i default).kids = some s) :
    (l.getD i default).op = 25 → s.getD 0 0 = 3 → LoopOk l (l.getD i default) := by
  intro _ h3
  have h0 : 0 < (l.getD i default).kids.length := by
    rw [← kidS_len h]
    rcases Nat.eq_zero_or_pos s.length with hc | hc
    · have : s = [] := by simpa using hc
      subst this; simp at h3
    · exact hc
  obtain ⟨g1, g2, g3⟩ := kidS_hd h h0
  rw [g3, sortsS_get (by omega)] at h3
  obtain ⟨p1, p2, p3⟩ := sortN_loop h3
  exact ⟨⟨h0, g1, by omega, hlen _⟩, p1, p2, p3⟩

theorem rf_so_p2 {l : List Node} {i : Nat} (hi : i < l.length) (hb : l.length < 1073741824) {n : Node} (hn : l.getD i default = n) (hkb : n.kids.length < 1073741824) {R : V → S → Prop} {v : V} :
    ∀ m j, n.kids.length - j = m → j ≤ n.kids.length → ∀ (a : List Int) (w : V) (s : S), a.length = j →
      (match kidS i (sortsS l i) n.kids with | none => kidS i (sortsS l i) (n.kids.drop j) = none | some t => kidS i (sortsS l i) (n.kids.drop j) = some (t.drop j) ∧ a = t.take j) →
      Ls s 1 w (a.map fun n => V.int .i64 n) a.length → Ls s 1 v ((sortsS l i).map fun n => V.int .i64 n) i → (∀ id, idOf v id → ¬ idOf w id) →
      (∀ w' s', kidS i (sortsS l i) n.kids = none → WF s' → Ls s' 1 v ((sortsS l i).map fun n => V.int .i64 n) i → fullingref7_Sorts.p3 R (eNodes l) v (.int .i64 (i : Int)) w' (.bool false) s') →
      (∀ w' s' t, kidS i (sortsS l i) n.kids = some t → WF s' → Ls s' 1 v ((sortsS l i).map fun n => V.int .i64 n) i → Ls s' 1 w' (t.map fun n => V.int .i64 n) t.length → fullingref7_Sorts.p3 R (eNodes l) v (.int .i64 (i : Int)) w' (.bool true) s') →
      fullingref7_Sorts.p2 R (eNodes l) v (.int .i64 (i : Int)) w (.bool true) (.int .i64 (j : Int)) s := by
  intro m
  induction m with
  | zero =>
    intro j hm hj a w s ha hinv hW hL hd hF hT
    obtain rfl : j = n.kids.length := by omega
    refine fullingref7_Sorts.p2_s fun hw => ?_
    rw [vIaddr_nodes hi, hn]
    simp only [bo_some, vFaddr_lptr, List.drop_succ_cons, List.drop_zero, load_lptr', vLen_eS, bin_lss, br_bool, decide_eq_true_eq, Int.ofNat_lt, Nat.lt_irrefl, if_false]
    have hks : kidS i (sortsS l i) n.kids = some a := by
      cases h : kidS i (sortsS l i) n.kids with
      | none => rw [h] at hinv; simp [kidS] at hinv
      | some t =>
        rw [h] at hinv
        simp only [List.drop_length] at hinv
        rw [hinv.2, List.take_of_length_le (by rw [kidS_len h]; exact Nat.le_refl _)]
    exact hT w s a hks hw hL hW
  | succ m ih =>
    intro j hm hj a w s ha hinv hW hL hd hF hT
    have h1 : j < n.kids.length := by omega
    refine fullingref7_Sorts.p2_s fun hw => ?_
    rw [vIaddr_nodes hi, hn]
    simp only [bo_some, vFaddr_lptr, List.drop_succ_cons, List.drop_zero, load_lptr', vLen_eS, bin_lss, br_bool, decide_eq_true_eq, Int.ofNat_lt]
    rw [if_pos h1]
    refine get_int h1 ?_
    simp only [bin_lss, bin_geq, bo_some, br_bool, decide_eq_true_eq]
    have hdr := drop_getD n.kids j h1
    rw [show n.kids.getD j default = n.kids.getD j 0 from rfl] at hdr
    generalize hkj : n.kids.getD j 0 = kj at hdr ⊢
    have hnone : (kj < 0 ∨ (i : Int) ≤ kj ∨ (sortsS l i).getD kj.toNat 0 = 0) → kidS i (sortsS l i) n.kids = none := by
      intro hc
      cases h : kidS i (sortsS l i) n.kids with
      | none => rfl
      | some t =>
        rw [h] at hinv
        have := hinv.1
        rw [hdr] at this
        unfold kidS at this
        rw [if_pos hc] at this
        simp at this
    have hp6 : ∀ b : Bool, (b = true ↔ (kj < 0 ∨ (i : Int) ≤ kj ∨ (sortsS l i).getD kj.toNat 0 = 0)) → fullingref7_Sorts.p6 R (eNodes l) v (.int .i64 (i : Int)) w (.bool true) (.int .i64 (j : Int)) (.int .i64 kj) (.bool b) s := by
      intro b hb2
      refine fullingref7_Sorts.p6_s fun _ => ?_
      cases b with
      | true =>
        rw [br_bool, if_pos rfl]
        exact hF w s (hnone (hb2.1 rfl)) hw hL
      | false =>
        have hok : ¬ (kj < 0 ∨ (i : Int) ≤ kj ∨ (sortsS l i).getD kj.toNat 0 = 0) := fun h => by simpa using hb2.2 h
        rw [br_bool, if_neg (by simp)]
        obtain ⟨y, rfl⟩ := Int.eq_ofNat_of_zero_le (show 0 ≤ kj by omega)
        have hyi : y < i := by omega
        refine get_one hL hyi (c := .int .i64 ((sortsS l i).getD y 0)) (by simp [List.getD, sortsS_len, hyi]) ?_
        refine app_one (new := [.int .i64 ((sortsS l i).getD y 0)]) hW hw rfl rfl rfl (by decide) (by omega) fun w' s' hw' hW' hK hid => ?_
        rw [bin_inc (by omega), bo_some]
        refine ih (j + 1) (by omega) (by omega) (a ++ [(sortsS l i).getD y 0]) w' s' (by simp [ha]) ?_ ?_ (hL.keep hK fun id hi hc => hd id hi hc) ?_ hF hT
        · cases h : kidS i (sortsS l i) n.kids with
          | none =>
            rw [h] at hinv
            simp only at hinv ⊢
            rw [hdr] at hinv
            unfold kidS at hinv
            rw [if_neg hok] at hinv
            cases h2 : kidS i (sortsS l i) (n.kids.drop (j + 1)) with
            | none => rfl
            | some t => rw [h2] at hinv; simp at hinv
          | some t =>
            rw [h] at hinv
            simp only at hinv ⊢
            obtain ⟨hi1, hi2⟩ := hinv
            rw [hdr] at hi1
            unfold kidS at hi1
            rw [if_neg hok] at hi1
            have hlt : j < t.length := by rw [kidS_len h]; exact h1
            rw [drop_getD t j hlt] at hi1
            cases h2 : kidS i (sortsS l i) (n.kids.drop (j + 1)) with
            | none => rw [h2] at hi1; simp at hi1
            | some u =>
              rw [h2] at hi1
              simp only [Option.map_some, Option.some.injEq, List.cons.injEq] at hi1
              refine ⟨by rw [hi1.2], ?_⟩
              rw [take_getD t j hlt, hi2, ← hi1.1]
              rfl
        · rw [map_int_append]
          simpa using hW'
        · intro id hv hc
          rcases hid id hc with h | h
          · exact hd id hv h
          · rcases hL.2 with ⟨rfl, _⟩ | ⟨id0, ep, wr, rfl, hg, _⟩
            · exact hv
            · cases hv
              have := hw.lt hg; omega
    split
    · rename_i hneg
      refine fullingref7_Sorts.p5_s fun _ => ?_
      rw [br_bool, if_pos rfl]
      exact hp6 true (by simp [hneg])
    · rename_i hneg
      refine fullingref7_Sorts.p5_s fun _ => ?_
      rw [br_bool]
      split
      · rename_i hge
        exact hp6 true (by simp at hge; simp [hge])
      · rename_i hge
        have hge : ¬ (i : Int) ≤ kj := by simpa using hge
        obtain ⟨y, rfl⟩ := Int.eq_ofNat_of_zero_le (show 0 ≤ kj by omega)
        have hyi : y < i := by omega
        refine get_one hL hyi (c := .int .i64 ((sortsS l i).getD y 0)) (by simp [List.getD, sortsS_len, hyi]) ?_
        rw [bin_eql, bo_some]
        exact hp6 _ (by simp only [decide_eq_true_eq]; constructor <;> intro h <;> first | exact .inr (.inr h) | (rcases h with h | h | h <;> first | (exfalso; omega) | exact h))

theorem rf_so_p1 {l : List Node} (hb : l.length < 1073741824) (hlen : ∀ k, (l.getD k default).kids.length < 1073741824) {R : V → S → Prop} (hR : ∀ v s, Ls s 1 v ((sortsS l l.length).map fun n => V.int .i64 n) l.length → R v s) :
    ∀ m i, l.length - i = m → i ≤ l.length → ∀ v s, Ls s 1 v ((sortsS l i).map fun n => V.int .i64 n) i → fullingref7_Sorts.p1 R (eNodes l) v (.int .i64 (i : Int)) s := by
  intro m
  induction m with
  | zero =>
    intro i hm hi v s hL
    obtain rfl : i = l.length := by omega
    refine fullingref7_Sorts.p1_s fun hw => ?_
    simp only [vLen_eS, bin_lss, bo_some, br_bool, decide_eq_true_eq, Int.ofNat_lt, Nat.lt_irrefl, if_false]
    exact hR v s hL
  | succ m ih =>
    intro i hm hi v s hL
    have h1 : i < l.length := by omega
    refine fullingref7_Sorts.p1_s fun hw => ?_
    simp only [vLen_eS, bin_lss, bo_some, br_bool, decide_eq_true_eq, Int.ofNat_lt]
    rw [if_pos h1]
    have hnext : ∀ v' s', Ls s' 1 v' ((sortsS l i).map (fun n => V.int .i64 n) ++ [.int .i64 (sortAt l i (sortsS l i))]) (i + 1) → fullingref7_Sorts.p4 R (eNodes l) v' (.int .i64 (i : Int)) s' := by
      intro v' s' hL'
      refine fullingref7_Sorts.p4_s fun _ => ?_
      rw [bin_inc (by omega), bo_some]
      refine ih (i + 1) (by omega) (by omega) v' s' ?_
      rw [← map_int_append] at hL'
      exact hL'
    refine rf_so_p2 (n := l.getD i default) h1 hb rfl (hlen i) _ 0 rfl (Nat.zero_le _) [] .nils s rfl ?_ .nil hL (fun _ _ h => h) (fun w' s' hk hw' hL' => ?_) (fun w' s' t hk hw' hL' hW' => ?_)
    · cases h : kidS i (sortsS l i) (l.getD i default).kids with
      | none => simpa using h
      | some t => simpa using h
    · refine fullingref7_Sorts.p3_s fun _ => ?_
      rw [br_bool, if_neg (by simp)]
      refine app_one (new := [.int .i64 0]) hL' hw' rfl rfl rfl (by decide) (by omega) fun v'' s'' hw'' hL'' _ _ => ?_
      refine hnext v'' s'' ?_
      have : sortAt l i (sortsS l i) = 0 := by unfold sortAt; rw [hk]
      rw [this]; exact hL''
    · refine fullingref7_Sorts.p3_s fun _ => ?_
      rw [br_bool, if_pos rfl, vIaddr_nodes h1, bo_some, load_lptrk (by simp), bo_some]
      have hns := fullingref7_nodeSort_pu (l := l) (n := l.getD i default) (k := t) (by rw [kidS_len hk]; exact hlen i) (kidS_len hk) (loop_ok h1 hlen hk) (fun x hx => by
        obtain ⟨k, _, g1, g2, g3, g4⟩ := kidS_vals hk x hx
        rw [sortsS_get (by omega)] at g3
        have := sortN_range l k.toNat
        rw [← g3] at this
        omega)
      refine hns.s rfl (.cons (cv_nodes l).fz (.cons (Cv.agg (.refl (eN_cv _))).fz (.cons hW'.ints .nil))) ?_
      refine app_one (new := [.int .i64 (finS l (l.getD i default) t)]) hL' hw' rfl rfl rfl (by decide) (by omega) fun v'' s'' hw'' hL'' _ _ => ?_
      refine hnext v'' s'' ?_
      have : sortAt l i (sortsS l i) = finS l (l.getD i default) t := by unfold sortAt; rw [hk]
      rw [this]; exact hL''
theorem fullingref7_Sorts_pu {l : List Node} (hb : l.length < 1073741824) (hlen : ∀ k, (l.getD k default).kids.length < 1073741824) : Pu Pg F.fullingref7_Sorts [eNodes l] (eInts (sortsS l l.length)) := by
  refine Pu.fz fullingref7_Sorts_k (fullingref7_Sorts_c (fullingref7_Sorts.p0_s fun hw => ?_))
  exact rf_so_p1 hb hlen (fun v s hL => hL.ints) l.length 0 rfl (Nat.zero_le _) _ _ .nil
end Go.Am.Ytmjaimpkjjkliaa
