/- Chapter 7, the program: sortOf, Sort, Dependencies. -/
import Derived.Test.YtmjaimpkjjkliaaKb
namespace Go.Am.Ytmjaimpkjjkliaa
open Go.Proofs
set_option linter.unusedVariables false

/-! ### validImm -/
def validImmS (l : List Node) (n : Node) : Bool :=
  if n.op = 1 then true
  else if n.op = 27 then decide (1 ≤ n.imm) && decide (n.imm ≤ 1000016)
  else decide (0 ≤ n.imm) && decide (n.imm ≤
    (if n.op = 2 then 5 else if n.op = 3 then 255 else if n.op = 23 ∨ n.op = 28 then 3 else if n.op = 30 then 7 else if n.op = 31 then 15
     else if n.op = 25 then (lv (l.getD (n.kids.getD 0 0).toNat default).kids.length : Int) - 1 else 0))
def KidOk (l : List Node) (n : Node) : Prop := 0 < n.kids.length ∧ 0 ≤ n.kids.getD 0 0 ∧ n.kids.getD 0 0 < l.length ∧ (l.getD (n.kids.getD 0 0).toNat default).kids.length < 1073741824

theorem ir_vi_p1 {n : Node} {m : Int} {R : V → S → Prop} {s : S} (hs : s.h.get 0 = some (.row (eN n) 0 0)) (hR : R (.bool (decide (0 ≤ n.imm) && decide (n.imm ≤ m))) s) : ir_validImm.p1 R (.ptr 0 0 0 3) (.int .i64 m) s := by
  refine ir_validImm.p1_s fun _ => ?_
  refine fld hs (Nat.le_refl _) (by decide) rfl ?_
  simp only [bin_geq, bo_some, br_bool, decide_eq_true_eq]
  split
  · rename_i h
    refine fld hs (Nat.le_refl _) (by decide) rfl ?_
    simp only [bin_leq, bo_some]
    simpa [h] using hR
  · rename_i h
    simpa [h] using hR

theorem ir_validImm_pu {l : List Node} {n : Node} (hk : n.op = 25 → KidOk l n) : Pu Pg F.ir_validImm [eNodes l, .agg (eN n)] (.bool (validImmS l n)) := by
  refine Pu.fl ir_validImm_k rfl (ir_validImm_c (ir_validImm.p0_s fun _ => ?_))
  rw [bn_box]
  refine ⟨rfl, ?_⟩
  have hrow : ((⟨.nil, 0⟩ : S).new (.row (V.agg (eN n)).cells 0 0)).h.get 0 = some (.row (eN n) 0 0) := S.get_new_self (s := ⟨.nil, 0⟩)
  generalize ((⟨.nil, 0⟩ : S).new (.row (V.agg (eN n)).cells 0 0)) = s1 at hrow ⊢
  show bo (vFaddr 0 (.ptr 0 0 0 3)) _
  refine fld hrow (Nat.le_refl _) (by decide) rfl ?_
  generalize hsp : validImmS l n = spec
  unfold validImmS at hsp
  have hp2 : ∀ b : Bool, n.op ≠ 1 → n.op ≠ 2 → n.op ≠ 3 → (b = true ↔ n.op = 23 ∨ n.op = 28) → ir_validImm.p2 (fun v1 _ => v1 = .bool spec) (eNodes l) (.ptr 0 0 0 3) (.int .i64 0) (.int .i64 n.op) (.bool b) s1 := by
    intro b n1 n2 n3 hb
    refine ir_validImm.p2_s fun _ => ?_
    simp only [br_bool, bin_eql, bo_some, decide_eq_true_eq]
    rw [if_neg n1] at hsp
    split
    · rename_i h
      have h' := hb.1 h
      refine ir_vi_p1 hrow ?_
      rw [← hsp, if_neg (by omega), if_neg n2, if_neg n3, if_pos h']
    · rename_i h
      have h' : ¬ (n.op = 23 ∨ n.op = 28) := fun hc => h (hb.2 hc)
      split
      · rename_i h27
        refine fld hrow (Nat.le_refl _) (by decide) rfl ?_
        simp only [bin_geq, bo_some, br_bool, decide_eq_true_eq]
        rw [if_pos h27] at hsp
        split
        · rename_i h1
          refine fld hrow (Nat.le_refl _) (by decide) rfl ?_
          simp only [bin_leq, bo_some]
          rw [← hsp, decide_eq_true h1]; rfl
        · rename_i h1
          rw [← hsp, decide_eq_false h1]; rfl
      · rename_i h27
        rw [if_neg h27, if_neg n2, if_neg n3, if_neg h'] at hsp
        split
        · rename_i h30
          refine ir_vi_p1 hrow ?_
          rw [← hsp, if_pos h30]
        · rename_i h30
          rw [if_neg h30] at hsp
          split
          · rename_i h31
            refine ir_vi_p1 hrow ?_
            rw [← hsp, if_pos h31]
          · rename_i h31
            rw [if_neg h31] at hsp
            split
            · rename_i h25
              obtain ⟨k1, k2, k3, k4⟩ := hk h25
              refine fld hrow (Nat.le_refl _) (by decide) rfl ?_
              refine get_int (i := 0) k1 ?_
              rw [vIaddr_nodesi k2 k3]
              simp only [bo_some, vFaddr_lptr, List.drop_succ_cons, List.drop_zero, load_lptr', vLen_eS]
              refine (ir_loopVars_pu _ k4).c (.cons (.int _ _) .nil) ?_
              have hl : lv (l.getD (n.kids.getD 0 0).toNat default).kids.length ≤ (l.getD (n.kids.getD 0 0).toNat default).kids.length := by unfold lv; omega
              rw [bin_sub (by omega) (by omega), bo_some]
              refine ir_vi_p1 hrow ?_
              rw [← hsp, if_pos h25]
            · rename_i h25
              refine ir_vi_p1 hrow ?_
              rw [← hsp, if_neg h25]
  simp only [bin_eql, bo_some, br_bool, decide_eq_true_eq]
  split
  · rename_i h; rw [← hsp, if_pos h]
  · rename_i n1
    split
    · rename_i h
      refine ir_vi_p1 hrow ?_
      rw [← hsp, if_neg n1, if_neg (by omega), if_pos h]
    · rename_i n2
      split
      · rename_i h
        refine ir_vi_p1 hrow ?_
        rw [← hsp, if_neg n1, if_neg (by omega), if_neg n2, if_pos h]
      · rename_i n3
        split
        · rename_i h
          exact hp2 _ n1 n2 n3 (by simp [h])
        · rename_i h
          exact hp2 _ n1 n2 n3 (by simp [h])

/-! ### sortOf -/
theorem okN (n : Node) : okCells (V.agg (eN n)).cells = true := by
  show (true && (true && (okCell (eInts n.kids) && true))) = true
  rw [okCell_eS]; rfl
def kidS (i : Nat) (known : List Int) : List Int → Option (List Int)
  | [] => some []
  | k :: ks => if k < 0 ∨ (i : Int) ≤ k ∨ known.getD k.toNat 0 = 0 then none else (kidS i known ks).map (known.getD k.toNat 0 :: ·)
theorem kidS_len {i : Nat} {known : List Int} : ∀ {ks s : List Int}, kidS i known ks = some s → s.length = ks.length := by
  intro ks
  induction ks with
  | nil => intro s h; simp [kidS] at h; subst h; rfl
  | cons k ks ih =>
    intro s h
    unfold kidS at h
    split at h
    · simp at h
    · cases hk : kidS i known ks with
      | none => simp [hk] at h
      | some t => simp [hk] at h; subst h; simp [ih hk]
theorem kidS_mem {i : Nat} {known : List Int} : ∀ {ks s : List Int}, kidS i known ks = some s → ∀ k ∈ ks, 0 ≤ k ∧ k < i ∧ known.getD k.toNat 0 ≠ 0 := by
  intro ks
  induction ks with
  | nil => intro s _ k hk; simp at hk
  | cons k ks ih =>
    intro s h
    unfold kidS at h
    split at h
    · simp at h
    · rename_i hn
      cases hk : kidS i known ks with
      | none => simp [hk] at h
      | some t =>
        intro k' hk'
        rcases List.mem_cons.1 hk' with rfl | hm
        · omega
        · exact ih hk k' hm
/-- The sort of a node whose operands have these sorts. -/
def finS (l : List Node) (n : Node) (s : List Int) : Int :=
  if validOperandsS n.op s = false ∨ validImmS l n = false then 0
  else if n.op = 31 then 3
  else if n.op = 26 ∨ n.op = 27 ∨ n.op = 28 ∨ n.op = 29 ∨ n.op = 30 then 2
  else if n.op = 22 then s.getD 1 0
  else if n.op = 3 then (if n.imm.tmod 16 = 0 then 2 else 1)
  else if n.op = 25 then (if n.imm = 0 then 2 else 1)
  else 1
def sortAt (l : List Node) (i : Nat) (known : List Int) : Int :=
  match kidS i known (l.getD i default).kids with
  | none => 0
  | some s => finS l (l.getD i default) s

theorem map_int_append (a : List Int) (x : Int) : (a ++ [x]).map (fun n => V.int .i64 n) = a.map (fun n => V.int .i64 n) ++ [V.int .i64 x] := by simp

theorem ir_so_p3 {n : Node} {a : List Int} {v : V} {s : S} {b : Bool} {R : V → S → Prop} (hL : Ls s 1 v (a.map fun n => V.int .i64 n) a.length) (hs : s.h.get 0 = some (.row (eN n) 0 0)) (h22 : n.op = 22 → 1 < a.length)
    (hR : R (.int .i64 (if b = true then 2 else if n.op = 22 then a.getD 1 0 else if n.op = 3 then (if n.imm.tmod 16 = 0 then 2 else 1) else if n.op = 25 then (if n.imm = 0 then 2 else 1) else 1)) s) :
    ir_sortOf.p3 R (.ptr 0 0 0 3) v (.int .i64 n.op) (.bool b) s := by
  refine ir_sortOf.p3_s fun _ => ?_
  cases b with
  | true => simpa using hR
  | false =>
    simp only [br_bool, Bool.false_eq_true, if_false, bin_eql, bo_some, decide_eq_true_eq] at hR ⊢
    split
    · rename_i h
      rw [if_pos h] at hR
      refine get_one (i := 1) hL (h22 h) (c := .int .i64 (a.getD 1 0)) ?_ hR
      have := h22 h
      simp [List.getD, this]
    · rename_i h
      rw [if_neg h] at hR
      split
      · rename_i h3
        rw [if_pos h3] at hR
        refine fld hs (Nat.le_refl _) (by decide) rfl ?_
        rw [bin_rem (by decide), bo_some]
        simp only [bin_eql, bo_some, br_bool, decide_eq_true_eq]
        split <;> simp_all
      · rename_i h3
        rw [if_neg h3] at hR
        split
        · rename_i h25
          rw [if_pos h25] at hR
          refine fld hs (Nat.le_refl _) (by decide) rfl ?_
          simp only [bin_eql, bo_some, br_bool, decide_eq_true_eq]
          split <;> simp_all
        · rename_i h25
          rw [if_neg h25] at hR
          exact hR

theorem vo22 {op : Int} {s : List Int} (h : validOperandsS op s = true) (h22 : op = 22) : 1 < s.length := by
  subst h22
  unfold validOperandsS at h
  split at h
  · simp at h
  · rename_i hn
    simp only [not_or, not_and, Decidable.not_not] at hn
    have := hn.2 (by decide)
    have e : (arityS 22).1 = 3 := by decide
    rw [e] at this; omega

theorem ir_so_p2 {l : List Node} {n : Node} {a : List Int} {v : V} {s : S} {b : Bool} {R : V → S → Prop} (hL : Ls s 1 v (a.map fun n => V.int .i64 n) a.length) (hs : s.h.get 0 = some (.row (eN n) 0 0))
    (hb : b = true ↔ (validOperandsS n.op a = false ∨ validImmS l n = false)) (hR : R (.int .i64 (finS l n a)) s) : ir_sortOf.p2 R (.ptr 0 0 0 3) v (.bool b) s := by
  refine ir_sortOf.p2_s fun _ => ?_
  unfold finS at hR
  cases b with
  | true =>
    rw [if_pos (hb.1 rfl)] at hR
    simpa using hR
  | false =>
    have hn : ¬ (validOperandsS n.op a = false ∨ validImmS l n = false) := fun h => by simpa using hb.2 h
    rw [if_neg hn] at hR
    have h22 : n.op = 22 → 1 < a.length := vo22 (by cases h : validOperandsS n.op a with | true => rfl | false => exact absurd (.inl h) hn)
    simp only [br_bool, Bool.false_eq_true, if_false]
    refine fld hs (Nat.le_refl _) (by decide) rfl ?_
    simp only [bin_eql, bo_some, br_bool, decide_eq_true_eq]
    split
    · rename_i h; rw [if_pos h] at hR; exact hR
    · rename_i h31
      rw [if_neg h31] at hR
      repeat' split
      all_goals refine ir_so_p3 hL hs h22 ?_
      all_goals simp_all

theorem ir_so_p1 {l : List Node} {i : Nat} {known : List Int} {n : Node} (hi : i ≤ l.length) (hik : i ≤ known.length) (hb : n.kids.length < 1073741824) (hlen : ∀ k, (l.getD k default).kids.length < 1073741824) {R : V → S → Prop}
    (hR : ∀ s, R (.int .i64 (match kidS i known n.kids with | none => 0 | some s => finS l n s)) s) :
    ∀ m j, n.kids.length - j = m → j ≤ n.kids.length → ∀ (a : List Int) (v : V) (s : S), a.length = j → (match kidS i known n.kids with | none => kidS i known (n.kids.drop j) = none | some s => kidS i known (n.kids.drop j) = some (s.drop j) ∧ a = s.take j) →
      (∀ k ∈ n.kids.take j, 0 ≤ k ∧ k < i) →
      Ls s 1 v (a.map fun n => V.int .i64 n) a.length → s.h.get 0 = some (.row (eN n) 0 0) → ¬ idOf v 0 →
      ir_sortOf.p1 R (eNodes l) (.int .i64 (i : Int)) (eInts known) (.ptr 0 0 0 3) v (eInts n.kids) (.int .i64 (n.kids.length : Int)) (.int .i64 (j : Int)) s := by
  intro m
  induction m with
  | zero =>
    intro j hm hj a v s ha hinv hkk hL hs hv
    obtain rfl : j = n.kids.length := by omega
    refine ir_sortOf.p1_s fun hw => ?_
    simp only [bin_lss, bo_some, br_bool, decide_eq_true_eq, Int.ofNat_lt, Nat.lt_irrefl, if_false]
    have hks : kidS i known n.kids = some a := by
      cases h : kidS i known n.kids with
      | none => rw [h] at hinv; simp [kidS] at hinv
      | some t =>
        rw [h] at hinv
        simp only [List.drop_length] at hinv
        rw [hinv.2, List.take_of_length_le (by rw [kidS_len h]; exact Nat.le_refl _)]
    have hR' : ∀ s, R (.int .i64 (finS l n a)) s := fun s => by have := hR s; rw [hks] at this; exact this
    refine ldk hs (Nat.le_refl _) (by decide) ?_
    refine (ir_validOperands_pu n a (by omega)).s rfl (.cons (Cv.agg (.refl (eN_cv n))).fz (.cons hL.ints .nil)) ?_
    simp only [un_not, bo_some, br_bool]
    cases hvo : validOperandsS n.op a with
    | false =>
      simp only [Bool.not_false, if_true]
      exact ir_so_p2 (l := l) hL hs (by simp [hvo]) (hR' s)
    | true =>
      simp only [Bool.not_true, Bool.false_eq_true, if_false]
      refine ldk hs (Nat.le_refl _) (by decide) ?_
      refine (ir_validImm_pu (l := l) (n := n) fun h25 => ?_).c (.cons (cv_nodes _) (.cons (Cv.agg (.refl (eN_cv n))) .nil)) ?_
      · have h0 : 0 < n.kids.length := by
          rw [← ha]
          rcases Nat.eq_zero_or_pos a.length with h | h
          · exfalso
            have : a = [] := by simpa using h
            subst this
            rw [h25] at hvo
            revert hvo; decide
          · exact h
        have hm0 : n.kids.getD 0 0 ∈ n.kids := by
          have : n.kids.getD 0 0 = n.kids[0] := by simp [List.getD, h0]
          rw [this]; exact List.getElem_mem _
        have := hkk (n.kids.getD 0 0) (by simpa using hm0)
        exact ⟨h0, this.1, by omega, hlen _⟩
      · simp only [un_not, bo_some]
        exact ir_so_p2 (l := l) hL hs (by simp [hvo]) (hR' s)
  | succ m ih =>
    intro j hm hj a v s ha hinv hkk hL hs hv
    have h1 : j < n.kids.length := by omega
    refine ir_sortOf.p1_s fun hw => ?_
    simp only [bin_lss, bo_some, br_bool, decide_eq_true_eq, Int.ofNat_lt]
    rw [if_pos h1]
    refine get_int h1 ?_
    simp only [bin_lss, bin_geq, bo_some, br_bool, decide_eq_true_eq]
    have hd := drop_getD n.kids j h1
    rw [show n.kids.getD j default = n.kids.getD j 0 from rfl] at hd
    generalize hkj : n.kids.getD j 0 = kj at hd ⊢
    have hbad : (kj < 0 ∨ (i : Int) ≤ kj ∨ known.getD kj.toNat 0 = 0) → R (.int .i64 0) s := by
      intro hc
      have hnone : kidS i known n.kids = none := by
        cases h : kidS i known n.kids with
        | none => rfl
        | some t =>
          rw [h] at hinv
          have := hinv.1
          rw [hd] at this
          unfold kidS at this
          rw [if_pos hc] at this
          simp at this
      have := hR s
      rw [hnone] at this
      exact this
    have hp5 : ∀ b : Bool, (b = true ↔ (kj < 0 ∨ (i : Int) ≤ kj ∨ known.getD kj.toNat 0 = 0)) → ir_sortOf.p5 R (eNodes l) (.int .i64 (i : Int)) (eInts known) (.ptr 0 0 0 3) v (.int .i64 kj) (eInts n.kids) (.int .i64 (n.kids.length : Int)) (.int .i64 (j : Int)) (.bool b) s := by
      intro b hb2
      refine ir_sortOf.p5_s fun _ => ?_
      cases b with
      | true => simpa using hbad (hb2.1 rfl)
      | false =>
        have hok : ¬ (kj < 0 ∨ (i : Int) ≤ kj ∨ known.getD kj.toNat 0 = 0) := fun h => by simpa using hb2.2 h
        simp only [br_bool, Bool.false_eq_true, if_false]
        refine get_inti (by omega) (by omega) ?_
        refine app_one (new := [.int .i64 (known.getD kj.toNat 0)]) hL hw rfl rfl rfl (by decide) (by omega) fun v' s' hw' hL' hK hid => ?_
        rw [bin_inc (by omega), bo_some]
        refine ih (j + 1) (by omega) (by omega) (a ++ [known.getD kj.toNat 0]) v' s' (by simp [ha]) ?_ ?_ ?_ (hK.get 0 _ hs hv) ?_
        · cases h : kidS i known n.kids with
          | none =>
            rw [h] at hinv
            simp only at hinv ⊢
            rw [hd] at hinv
            unfold kidS at hinv
            rw [if_neg hok] at hinv
            cases h2 : kidS i known (n.kids.drop (j + 1)) with
            | none => rfl
            | some t => rw [h2] at hinv; simp at hinv
          | some t =>
            rw [h] at hinv
            simp only at hinv ⊢
            obtain ⟨hi1, hi2⟩ := hinv
            rw [hd] at hi1
            unfold kidS at hi1
            rw [if_neg hok] at hi1
            have hlt : j < t.length := by rw [kidS_len h]; exact h1
            rw [drop_getD t j hlt] at hi1
            cases h2 : kidS i known (n.kids.drop (j + 1)) with
            | none => rw [h2] at hi1; simp at hi1
            | some u =>
              rw [h2] at hi1
              simp only [Option.map_some, Option.some.injEq, List.cons.injEq] at hi1
              refine ⟨by rw [hi1.2], ?_⟩
              rw [take_getD t j hlt, hi2, ← hi1.1]
        · intro k hk
          rw [take_getD n.kids j h1, List.mem_append] at hk
          rcases hk with hk | hk
          · exact hkk k hk
          · simp only [List.mem_singleton] at hk
            rw [hk, show n.kids.getD j default = n.kids.getD j 0 from rfl, hkj]; omega
        · rw [map_int_append]
          simpa using hL'
        · intro h
          rcases hid 0 h with h | h
          · exact hv h
          · have := hw.lt hs; omega
    split
    · rename_i hneg
      refine ir_sortOf.p4_s fun _ => ?_
      simp only [br_bool, if_true]
      exact hp5 true (by simp [hneg])
    · rename_i hneg
      refine ir_sortOf.p4_s fun _ => ?_
      simp only [br_bool, decide_eq_true_eq]
      split
      · rename_i hge
        exact hp5 true (by simp [hge])
      · rename_i hge
        refine get_inti (by omega) (by omega) ?_
        simp only [bin_eql, bo_some]
        exact hp5 _ (by simp [hneg]; omega)

theorem ir_sortOf_pu {l : List Node} {i : Nat} {known : List Int} (hi : i < l.length) (hik : i ≤ known.length) (hlen : ∀ k, (l.getD k default).kids.length < 1073741824) :
    Pu Pg F.ir_sortOf [eNodes l, .int .i64 (i : Int), eInts known] (.int .i64 (sortAt l i known)) := by
  refine Pu.fl ir_sortOf_k rfl (ir_sortOf_c (ir_sortOf.p0_s fun hw => ?_))
  rw [vIaddr_nodes hi, bo_some, load_lptrk (by simp), bo_some, bn_box]
  refine ⟨rfl, ?_⟩
  have hw1 := hw.new (.row (V.agg [(.int .i64 0), (.int .i64 0), .nils]).cells 0 0)
  have hrow : ((⟨.nil, 0⟩ : S).new (.row (V.agg [(.int .i64 0), (.int .i64 0), .nils]).cells 0 0)).h.get 0 = some (.row [(.int .i64 0), (.int .i64 0), .nils] 0 0) := S.get_new_self (s := ⟨.nil, 0⟩)
  generalize ((⟨.nil, 0⟩ : S).new (.row (V.agg [(.int .i64 0), (.int .i64 0), .nils]).cells 0 0)) = s1 at hw1 hrow ⊢
  show bs (vStore s1 3 (.ptr 0 0 0 3) (.agg (eN (l.getD i default)))) _
  generalize hn : l.getD i default = n
  have hkl : n.kids.length < 1073741824 := by rw [← hn]; exact hlen i
  rw [store_ptr (k := 3) (x := .agg (eN n)) hrow rfl rfl (okN n) (by decide), bs_some]
  have hw2 := hw1.put (ob := .row (setAt [(.int .i64 0), (.int .i64 0), .nils] 0 (V.agg (eN n)).cells) 0 0) hrow
  have hrow2 : (s1.put 0 (.row (setAt [(.int .i64 0), (.int .i64 0), .nils] 0 (V.agg (eN n)).cells) 0 0)).h.get 0 = some (.row (eN n) 0 0) := S.get_put_self
  generalize (s1.put 0 (.row (setAt [(.int .i64 0), (.int .i64 0), .nils] 0 (V.agg (eN n)).cells) 0 0)) = s2 at hw2 hrow2 ⊢
  refine fld hrow2 (Nat.le_refl _) (by decide) rfl ?_
  rw [vLen_eS, bo_some]
  refine ir_so_p1 (known := known) (n := n) (by omega) hik hkl hlen (fun s => ?_) n.kids.length 0 rfl (Nat.zero_le _) [] .nils s2 rfl ?_ (by simp) .nil hrow2 (by simp [idOf])
  · unfold sortAt; rw [hn]
  · cases h : kidS i known n.kids with
    | none => simpa using h
    | some t => simpa using h

/-! ### sorts, Sort -/
def sortsS (l : List Node) : Nat → List Int
  | 0 => []
  | n + 1 => sortsS l n ++ [sortAt l n (sortsS l n)]
theorem sortsS_len (l : List Node) (n : Nat) : (sortsS l n).length = n := by
  induction n with
  | zero => rfl
  | succ n ih => simp [sortsS, ih]
/-- The sorts found so far, zeros behind. -/
def padS (l : List Node) (i n : Nat) : List Int := sortsS l i ++ List.replicate (n - i) 0
theorem padS_len (l : List Node) (i n : Nat) (h : i ≤ n) : (padS l i n).length = n := by simp [padS, sortsS_len]; omega
/-- A node's sort looks at the sorts before it alone. -/
theorem kidS_pad {i : Nat} {known known' : List Int} (h : ∀ j, j < i → known.getD j 0 = known'.getD j 0) : ∀ ks, kidS i known ks = kidS i known' ks := by
  intro ks
  induction ks with
  | nil => rfl
  | cons k ks ih =>
    unfold kidS
    rw [ih]
    by_cases h1 : k < 0 ∨ (i : Int) ≤ k
    · rw [if_pos (by omega), if_pos (by omega)]
    · rw [h k.toNat (by omega)]
theorem sortAt_pad {l : List Node} {i : Nat} {known known' : List Int} (h : ∀ j, j < i → known.getD j 0 = known'.getD j 0) : sortAt l i known = sortAt l i known' := by
  unfold sortAt; rw [kidS_pad h]
theorem padS_get (l : List Node) (i n j : Nat) (h : j < i) : (padS l i n).getD j 0 = (sortsS l i).getD j 0 := by
  unfold padS
  simp only [List.getD_eq_getElem?_getD]
  rw [List.getElem?_append_left (by rw [sortsS_len]; exact h)]
theorem padS_set (l : List Node) (i n : Nat) (h : i < n) : (padS l i n).set i (sortAt l i (padS l i n)) = padS l (i + 1) n := by
  rw [sortAt_pad (known' := sortsS l i) fun j hj => padS_get l i n j hj]
  unfold padS
  rw [show n - i = (n - (i + 1)) + 1 by omega, List.replicate_succ, List.set_append_right _ _ (by rw [sortsS_len]; exact Nat.le_refl _), sortsS_len, Nat.sub_self, List.set_cons_zero]
  simp [sortsS]
theorem ir_sorts_p1 {l : List Node} (hb : l.length < 1073741824) (hlen : ∀ k, (l.getD k default).kids.length < 1073741824) {R : V → S → Prop} (hR : ∀ v s, Ls s 1 v ((sortsS l l.length).map fun n => V.int .i64 n) l.length → R v s) :
    ∀ m i, l.length - i = m → i ≤ l.length → ∀ v s, Ls s 1 v ((padS l i l.length).map fun n => V.int .i64 n) l.length → ir_sorts.p1 R (eNodes l) v (.int .i64 (l.length : Int)) (.int .i64 (i : Int)) s := by
  intro m
  induction m with
  | zero =>
    intro i hm hi v s hL
    obtain rfl : i = l.length := by omega
    refine ir_sorts.p1_s fun hw => ?_
    simp only [bin_lss, bo_some, br_bool, decide_eq_true_eq, Int.ofNat_lt, Nat.lt_irrefl, if_false]
    refine hR v s ?_
    simpa [padS] using hL
  | succ m ih =>
    intro i hm hi v s hL
    have h1 : i < l.length := by omega
    refine ir_sorts.p1_s fun hw => ?_
    simp only [bin_lss, bo_some, br_bool, decide_eq_true_eq, Int.ofNat_lt]
    rw [if_pos h1]
    refine (ir_sortOf_pu (known := padS l i l.length) h1 (by rw [padS_len l i _ hi]; exact hi) hlen).s rfl (.cons (cv_nodes _).fz (.cons (Cv.int _ _).fz (.cons hL.ints .nil))) ?_
    refine put_one hL hw h1 rfl rfl rfl fun s' hw' hL' _ => ?_
    rw [bin_inc (by omega), bo_some]
    refine ih (i + 1) (by omega) (by omega) v s' ?_
    rw [map_set_int, padS_set l i _ h1] at hL'
    exact hL'
theorem ir_sorts_pu {l : List Node} (hb : l.length < 1073741824) (hlen : ∀ k, (l.getD k default).kids.length < 1073741824) : Pu Pg F.ir_sorts [eNodes l] (eInts (sortsS l l.length)) := by
  refine Pu.fz ir_sorts_k (ir_sorts_c (ir_sorts.p0_s fun hw => ?_))
  rw [vLen_eS, bo_some]
  refine mk_one hw (Nat.le_refl _) (by decide) (by omega) fun v s' hw' hL _ _ => ?_
  rw [bo_some]
  refine ir_sorts_p1 hb hlen (fun v s hL => hL.ints) l.length 0 rfl (Nat.zero_le _) v s' ?_
  simpa [padS, sortsS] using hL

theorem sortAt_take {l : List Node} {i n : Nat} (h : i < n) (hn : n ≤ l.length) (known : List Int) : sortAt (l.take n) i known = sortAt l i known := by
  have hg : ∀ j, j < n → (l.take n).getD j default = l.getD j default := by
    intro j hj
    simp [List.getD, hj]
  unfold sortAt
  rw [hg i h]
  cases hk : kidS i known (l.getD i default).kids with
  | none => rfl
  | some s =>
    simp only
    have hv : validImmS (l.take n) (l.getD i default) = validImmS l (l.getD i default) ∨ (l.getD i default).op ≠ 25 ∨ (l.getD i default).kids = [] := by
      by_cases h25 : (l.getD i default).op = 25
      · cases hks : (l.getD i default).kids with
        | nil => exact .inr (.inr rfl)
        | cons a ks =>
          left
          have hm := kidS_mem hk a (by rw [hks]; exact List.mem_cons_self)
          unfold validImmS
          have : (l.getD i default).kids.getD 0 0 = a := by rw [hks]; rfl
          rw [this, hg a.toNat (by omega)]
      · exact .inr (.inl h25)
    unfold finS
    rcases hv with hv | hv | hv
    · rw [hv]
    · have : validImmS (l.take n) (l.getD i default) = validImmS l (l.getD i default) := by unfold validImmS; simp only [hv, if_false]
      rw [this]
    · rw [hv] at hk
      have hs : s = [] := by simpa [kidS] using hk.symm
      subst hs
      by_cases h25 : (l.getD i default).op = 25
      · have : validOperandsS (l.getD i default).op [] = false := by rw [h25]; decide
        rw [this]; simp
      · have : validImmS (l.take n) (l.getD i default) = validImmS l (l.getD i default) := by unfold validImmS; simp only [h25, if_false]
        rw [this]
theorem sortsS_take {l : List Node} {n : Nat} (hn : n ≤ l.length) : ∀ m, m ≤ n → sortsS (l.take n) m = sortsS l m := by
  intro m
  induction m with
  | zero => intro _; rfl
  | succ m ih =>
    intro h
    unfold sortsS
    rw [ih (by omega), sortAt_take (by omega) hn]
theorem sortsS_pre {l : List Node} : ∀ {m n : Nat}, m ≤ n → ∀ j, j < m → (sortsS l n).getD j 0 = (sortsS l m).getD j 0 := by
  intro m n h
  induction n with
  | zero => intro j hj; omega
  | succ n ih =>
    intro j hj
    by_cases hmn : m = n + 1
    · subst hmn; rfl
    · rw [← ih (by omega) j hj]
      simp only [sortsS, List.getD_eq_getElem?_getD]
      rw [List.getElem?_append_left (by rw [sortsS_len]; omega)]
/-- The sort of node i. -/
def sortS (l : List Node) (i : Int) : Int := if i < 0 ∨ (l.length : Int) ≤ i then 0 else (sortsS l l.length).getD i.toNat 0

theorem vSlice_take {α : Type} [Inhabited α] {enc : α → List V} {k : Nat} {l : List α} {n : Nat} (h0 : 0 < n) (hn : n ≤ l.length) : vSlice k (eS enc l) none (some (.int .i64 (n : Int))) = some (eL (l.flatMap enc) n) := by
  unfold eS
  obtain ⟨a, t, rfl⟩ : ∃ a t, l = a :: t := by cases l with | nil => simp at hn; omega | cons a t => exact ⟨a, t, rfl⟩
  obtain ⟨n, rfl⟩ : ∃ m, n = m + 1 := ⟨n - 1, by omega⟩
  simp only [List.length_cons] at hn
  simp only [List.length_cons, eL, vSlice, vBounds, natOf_nat]
  rw [show (Nat.ble 0 (n + 1) && Nat.ble (n + 1) (t.length + 1)) = true by simp; omega]
  simp only [cond_true]
  rw [show Nat.beq 0 (n + 1) = false from rfl]
  simp

theorem ir_Sort_pu {l : List Node} {i : Int} (hi : rng i) (hb : l.length < 1073741824) (hlen : ∀ k, (l.getD k default).kids.length < 1073741824) : Pu Pg F.ir_Sort [eNodes l, .int .i64 i] (.int .i64 (sortS l i)) := by
  refine Pu.fl ir_Sort_k rfl (ir_Sort_c (ir_Sort.p0_s fun hw => ?_))
  have hp1 : ∀ b : Bool, (b = true ↔ (i < 0 ∨ (l.length : Int) ≤ i)) → ir_Sort.p1 (fun v1 _ => v1 = .int .i64 (sortS l i)) (eNodes l) (.int .i64 i) (.bool b) ⟨.nil, 0⟩ := by
    intro b hb2
    refine ir_Sort.p1_s fun _ => ?_
    cases b with
    | true =>
      simp only [br_bool, if_true]
      unfold sortS; rw [if_pos (hb2.1 rfl)]
    | false =>
      have hn : ¬ (i < 0 ∨ (l.length : Int) ≤ i) := fun h => by simpa using hb2.2 h
      simp only [br_bool, Bool.false_eq_true, if_false]
      obtain ⟨j, rfl⟩ := Int.eq_ofNat_of_zero_le (show 0 ≤ i by omega)
      have hj : j < l.length := by omega
      show bo (bin .add (.int .i64 (j : Int)) (.int .i64 1)) _
      rw [bin_inc (by omega), bo_some, vSlice_take (by omega) hj, bo_some]
      refine (ir_sorts_pu (l := l.take (j + 1)) (by simp; omega) fun k => ?_).c (.cons (cv_take eN_cv l (j + 1) hj) .nil) ?_
      · by_cases hk : k < j + 1
        · simp only [List.getD_eq_getElem?_getD, List.getElem?_take, hk, if_true]
          have := hlen k
          simpa [List.getD_eq_getElem?_getD] using this
        · simp [List.getD_eq_getElem?_getD, List.getElem?_take, hk]; decide
      · have hlt : (l.take (j + 1)).length = j + 1 := by simp; omega
        rw [hlt, sortsS_take hj (j + 1) (Nat.le_refl _)]
        refine get_int (i := j) (by rw [sortsS_len]; omega) ?_
        show V.int .i64 _ = _
        unfold sortS
        rw [if_neg hn]
        show V.int .i64 _ = V.int .i64 ((sortsS l l.length).getD j 0)
        rw [sortsS_pre (m := j + 1) (n := l.length) hj j (by omega)]
  simp only [bin_lss, bo_some, br_bool, decide_eq_true_eq]
  split
  · rename_i h; exact hp1 true (by simp [h])
  · rename_i h
    simp only [vLen_eS, bo_some, bin_geq]
    exact hp1 _ (by simp [h])
end Go.Am.Ytmjaimpkjjkliaa
