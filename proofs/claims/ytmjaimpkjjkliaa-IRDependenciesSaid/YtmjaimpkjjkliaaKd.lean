/- Chapter 7, the program: Dependencies. -/
import Derived.Test.YtmjaimpkjjkliaaKc
import Derived.Test.YtmjaimpkjjkliaaAmM27
namespace Go.Am.Ytmjaimpkjjkliaa
open Go.Proofs
set_option linter.unusedVariables false

/-- The sort of node j, by the nodes before it. -/
def sortN (l : List Node) (j : Nat) : Int := sortAt l j (sortsS l j)
theorem sortsS_get {l : List Node} {n j : Nat} (h : j < n) : (sortsS l n).getD j 0 = sortN l j := by
  rw [sortsS_pre (m := j + 1) (by omega) j (by omega)]
  simp only [sortsS, List.getD_eq_getElem?_getD]
  rw [List.getElem?_append_right (by rw [sortsS_len]; exact Nat.le_refl _), sortsS_len]
  simp [sortN]
theorem sortS_nat {l : List Node} {j : Nat} (h : j < l.length) : sortS l (j : Int) = sortN l j := by
  unfold sortS
  rw [if_neg (by omega)]
  exact sortsS_get h
theorem sortN_kids {l : List Node} {j : Nat} (h : sortN l j ≠ 0) : ∀ k ∈ (l.getD j default).kids, 0 ≤ k ∧ k < j ∧ sortN l k.toNat ≠ 0 := by
  intro k hk
  unfold sortN sortAt at h
  cases hks : kidS j (sortsS l j) (l.getD j default).kids with
  | none => rw [hks] at h; simp at h
  | some s =>
    obtain ⟨h1, h2, h3⟩ := kidS_mem hks k hk
    refine ⟨h1, h2, ?_⟩
    rwa [sortsS_get (by omega)] at h3

def markKids (b : List Bool) : List Int → List Bool
  | [] => b
  | k :: ks => markKids (b.set k.toNat true) ks
/-- Nodes n - 1 to 0 mark their operands. -/
def marks (l : List Node) : Nat → List Bool → List Bool
  | 0, b => b
  | n + 1, b => marks l n (if b.getD n false then markKids b (l.getD n default).kids else b)
def listed (b : List Bool) (n : Nat) : List Int := ((List.range n).filter fun j => b.getD j false).map fun (j : Nat) => (j : Int)
def depsS (l : List Node) (i : Int) : List Int :=
  if sortS l i = 0 then [] else listed (marks l (i.toNat + 1) ((List.replicate (i.toNat + 1) false).set i.toNat true)) (i.toNat + 1)

theorem markKids_len (b : List Bool) (ks : List Int) : (markKids b ks).length = b.length := by
  induction ks generalizing b with
  | nil => rfl
  | cons k ks ih => simp [markKids, ih]
theorem markKids_get (ks : List Int) : ∀ (b : List Bool) (j : Nat), (markKids b ks).getD j false = true → b.getD j false = true ∨ ∃ k ∈ ks, k.toNat = j := by
  induction ks with
  | nil => intro b j h; exact .inl h
  | cons k ks ih =>
    intro b j h
    rcases ih _ j h with h1 | ⟨k', hk', e⟩
    · by_cases hj : k.toNat = j
      · exact .inr ⟨k, List.mem_cons_self, hj⟩
      · left
        simpa [List.getD, List.getElem?_set, hj] using h1
    · exact .inr ⟨k', List.mem_cons_of_mem _ hk', e⟩

theorem map_set_bool (l : List Bool) (i : Nat) (x : Bool) : (l.map V.bool).set i (.bool x) = (l.set i x).map V.bool := by rw [List.map_set]

/-- Only well-formed nodes are marked. -/
def MOk (l : List Node) (n : Nat) (b : List Bool) : Prop := b.length = n ∧ ∀ j, b.getD j false = true → sortN l j ≠ 0
theorem MOk.kids {l : List Node} {n j : Nat} {b : List Bool} (h : MOk l n b) (hj : b.getD j false = true) : MOk l n (markKids b (l.getD j default).kids) := by
  refine ⟨by rw [markKids_len]; exact h.1, fun i hi => ?_⟩
  rcases markKids_get _ _ _ hi with h1 | ⟨k, hk, rfl⟩
  · exact h.2 i h1
  · exact (sortN_kids (h.2 j hj) k hk).2.2

theorem ir_de_p5 {l : List Node} {R : V → S → Prop} {n : Nat} {cnt k : Int} {v : V} {ks : List Int} (hb : ks.length < 1073741824) (hks : ∀ x ∈ ks, 0 ≤ x ∧ x < (n : Int)) (hn : n < 1073741824) {X : Nat → Prop} :
    ∀ m j, ks.length - j = m → j ≤ ks.length → ∀ (b : List Bool) (s : S), b.length = n → Ls s 1 v (b.map V.bool) n → WF s →
      (∀ s', WF s' → Ls s' 1 v ((markKids b (ks.drop j)).map V.bool) n → ir_Dependencies.p4 R (eNodes l) v (.int .i64 cnt) (.int .i64 k) s') →
      ir_Dependencies.p5 R (eNodes l) v (.int .i64 cnt) (.int .i64 k) (eInts ks) (.int .i64 (ks.length : Int)) (.int .i64 (j : Int)) s := by
  intro m
  induction m with
  | zero =>
    intro j hm hj b s hbl hL hw hk
    obtain rfl : j = ks.length := by omega
    refine ir_Dependencies.p5_s fun hw => ?_
    simp only [bin_lss, bo_some, br_bool, decide_eq_true_eq, Int.ofNat_lt, Nat.lt_irrefl, if_false]
    exact hk s hw (by simpa [markKids] using hL)
  | succ m ih =>
    intro j hm hj b s hbl hL hw hk
    have h1 : j < ks.length := by omega
    refine ir_Dependencies.p5_s fun hw => ?_
    simp only [bin_lss, bo_some, br_bool, decide_eq_true_eq, Int.ofNat_lt]
    rw [if_pos h1]
    refine get_int h1 ?_
    have hd := drop_getD ks j h1
    have hmem : ks.getD j 0 ∈ ks := by
      have : ks.getD j 0 = ks[j] := by simp [List.getD, h1]
      rw [this]; exact List.getElem_mem _
    obtain ⟨h0, hlt⟩ := hks _ hmem
    rw [show ks.getD j default = ks.getD j 0 from rfl] at hd
    generalize ks.getD j 0 = x at hd h0 hlt ⊢
    obtain ⟨y, rfl⟩ := Int.eq_ofNat_of_zero_le h0
    refine put_one (x := .bool true) hL hw (by omega) rfl rfl rfl fun s' hw' hL' _ => ?_
    show bo (bin .add (.int .i64 (j : Int)) (.int .i64 1)) _
    rw [bin_inc (by omega), bo_some]
    rw [map_set_bool] at hL'
    refine ih (j + 1) (by omega) (by omega) _ s' (by simpa using hbl) hL' hw' fun s'' hw'' hL'' => hk s'' hw'' ?_
    rw [hd]
    exact hL''

theorem ir_de_p2 {R : V → S → Prop} {b : List Bool} (hb : b.length < 1073741824) {v : V} (hR : ∀ w s, Ls s 1 w ((listed b b.length).map fun n => V.int .i64 n) (listed b b.length).length → R w s) :
    ∀ m j, b.length - j = m → j ≤ b.length → ∀ (w : V) (s : S), Ls s 1 v (b.map V.bool) b.length → Ls s 1 w ((listed b j).map fun n => V.int .i64 n) (listed b j).length → (∀ i, idOf v i → ¬ idOf w i) →
      ir_Dependencies.p2 R v w (.int .i64 (b.length : Int)) (.int .i64 (j : Int)) s := by
  intro m
  induction m with
  | zero =>
    intro j hm hj w s hL hW hd
    obtain rfl : j = b.length := by omega
    refine ir_Dependencies.p2_s fun hw => ?_
    simp only [bin_lss, bo_some, br_bool, decide_eq_true_eq, Int.ofNat_lt, Nat.lt_irrefl, if_false]
    exact hR w s hW
  | succ m ih =>
    intro j hm hj w s hL hW hd
    have h1 : j < b.length := by omega
    refine ir_Dependencies.p2_s fun hw => ?_
    simp only [bin_lss, bo_some, br_bool, decide_eq_true_eq, Int.ofNat_lt]
    rw [if_pos h1]
    refine get_one hL h1 (c := .bool (b.getD j false)) (by simp [List.getD, h1]) ?_
    have hlisted : listed b (j + 1) = if b.getD j false then listed b j ++ [(j : Int)] else listed b j := by
      unfold listed
      rw [List.range_succ, List.filter_append, List.map_append, List.filter_cons, List.filter_nil]
      generalize b.getD j false = c
      cases c <;> simp
    have hll : (listed b j).length ≤ j := by
      unfold listed
      rw [List.length_map]
      exact Nat.le_trans (List.length_filter_le _ _) (by simp)
    rw [br_bool]
    cases hbj : b.getD j false with
    | true =>
      rw [hbj] at hlisted
      simp only [if_true] at hlisted ⊢
      refine app_one (new := [.int .i64 (j : Int)]) hW hw rfl rfl rfl (by decide) (by omega) fun w' s' hw' hW' hK hid => ?_
      refine ir_Dependencies.p3_s fun _ => ?_
      rw [bin_inc (by omega), bo_some]
      refine ih (j + 1) (by omega) (by omega) w' s' (hL.keep hK fun i hi hc => hd i hi hc) ?_ fun i hi hc => ?_
      · rw [hlisted, map_int_append]; simpa using hW'
      · rcases hid i hc with h | h
        · exact hd i hi h
        · rcases hL.2 with ⟨rfl, _⟩ | ⟨id, ep, wr, rfl, hg, _⟩
          · exact hi
          · cases hi
            have := hw.lt hg; omega
    | false =>
      rw [hbj] at hlisted
      simp only [Bool.false_eq_true, if_false] at hlisted ⊢
      refine ir_Dependencies.p3_s fun _ => ?_
      rw [bin_inc (by omega), bo_some]
      exact ih (j + 1) (by omega) (by omega) w s hL (by rw [hlisted]; exact hW) hd

theorem ir_de_loop {l : List Node} {n : Nat} (hn : n ≤ l.length) (hb : l.length < 1073741824) (hlen : ∀ k, (l.getD k default).kids.length < 1073741824) {R : V → S → Prop} {v : V} :
    ∀ k, k ≤ n → ∀ (b : List Bool) (s : S) (cnt : Nat), MOk l n b → cnt + k ≤ n → Ls s 1 v (b.map V.bool) n →
      (∀ w s, Ls s 1 w ((listed (marks l k b) n).map fun n => V.int .i64 n) (listed (marks l k b) n).length → R w s) →
      ir_Dependencies.p1 R (eNodes l) v (.int .i64 (cnt : Int)) (.int .i64 ((k : Int) - 1)) s := by
  intro k
  induction k with
  | zero =>
    intro hk b s cnt hm hc hL hR
    refine ir_Dependencies.p1_s fun hw => ?_
    simp only [bin_geq, bo_some, br_bool, decide_eq_true_eq]
    rw [if_neg (by omega)]
    refine mk_one (n := 0) (c := cnt) hw (by omega) (by decide) (by omega) fun w s' hw' hW hK hid => ?_
    rw [hL.len, bo_some]
    have hbl := hm.1
    subst hbl
    refine ir_de_p2 (by omega) (fun w s h => hR w s (by simpa [marks] using h)) b.length 0 rfl (Nat.zero_le _) w s' (hL.keep hK fun _ _ h => h) (by simpa [listed] using hW) fun i hi hc2 => ?_
    have h1 := hid i hc2
    rcases hL.2 with ⟨rfl, _⟩ | ⟨id, ep, wr, rfl, hg, _⟩
    · exact hi
    · cases hi
      have := hw.lt hg; omega
  | succ k ih =>
    intro hk b s cnt hm hc hL hR
    have hcast : (((k + 1 : Nat) : Int) - 1) = (k : Int) := by omega
    rw [hcast]
    have hbl := hm.1
    refine ir_Dependencies.p1_s fun hw => ?_
    simp only [bin_geq, bo_some, br_bool, decide_eq_true_eq]
    rw [if_pos (by omega)]
    have hkb : k < b.length := by omega
    refine get_one hL (i := k) (by omega) (c := .bool (b.getD k false)) (by simp [List.getD, hkb]) ?_
    simp only [un_not, bo_some, br_bool]
    have hp4 : ∀ (b' : List Bool) (cnt' : Nat) s', MOk l n b' → cnt' + k ≤ n → Ls s' 1 v (b'.map V.bool) n → marks l (k + 1) b = marks l k b' → ir_Dependencies.p4 R (eNodes l) v (.int .i64 (cnt' : Int)) (.int .i64 (k : Int)) s' := by
      intro b' cnt' s' hm' hc' hL' he
      refine ir_Dependencies.p4_s fun _ => ?_
      rw [bin_sub (by omega) (by omega), bo_some]
      exact ih (by omega) b' s' cnt' hm' hc' hL' (by rw [← he]; exact hR)
    cases hbk : b.getD k false with
    | false =>
      simp only [Bool.not_false, if_true]
      exact hp4 b cnt s hm (by omega) hL (by simp only [marks, hbk]; rfl)
    | true =>
      simp only [Bool.not_true, Bool.false_eq_true, if_false]
      rw [bin_inc (by omega), bo_some, vIaddr_nodes (show k < l.length by omega)]
      simp only [bo_some, vFaddr_lptr, List.drop_succ_cons, List.drop_zero, load_lptr', vLen_eS]
      have hs := hm.2 k hbk
      refine ir_de_p5 (l := l) (n := n) (X := fun _ => False) (hlen k) (fun x hx => ?_) (by omega) _ 0 rfl (Nat.zero_le _) b s hbl hL hw fun s' hw' hL' => ?_
      · have := sortN_kids hs x hx; omega
      · rw [List.drop_zero] at hL'
        exact hp4 _ (cnt + 1) s' (hm.kids hbk) (by omega) hL' (by simp only [marks, hbk]; rfl)

theorem ir_Dependencies_l {l : List Node} {i : Int} (hi : rng i) (hb : l.length < 1073741824) (hlen : ∀ k, (l.getD k default).kids.length < 1073741824) :
    C Pg F.ir_Dependencies [eNodes l, .int .i64 i] ⟨.nil, 0⟩ fun v1 s1 => Ls s1 1 v1 ((depsS l i).map fun n => V.int .i64 n) (depsS l i).length := by
  refine ir_Dependencies_c (ir_Dependencies.p0_s fun hw => ?_)
  refine (ir_Sort_pu hi hb hlen).c (.cons (cv_nodes _) (.cons (Cv.int _ _) .nil)) ?_
  simp only [bin_eql, bo_some, br_bool, decide_eq_true_eq]
  split
  · rename_i h
    unfold depsS; rw [if_pos h]
    exact Ls.nil
  · rename_i h
    have hr : 0 ≤ i ∧ i < l.length := by
      unfold sortS at h
      split at h
      · exact absurd rfl h
      · omega
    obtain ⟨j, rfl⟩ := Int.eq_ofNat_of_zero_le hr.1
    have hj : j < l.length := by omega
    show bo (bin .add (.int .i64 (j : Int)) (.int .i64 1)) _
    rw [bin_inc (by omega), bo_some]
    refine mk_one hw (Nat.le_refl _) (by decide) (by omega) fun v s1 hw1 hL _ _ => ?_
    refine put_one (i := j) (x := .bool true) hL hw1 (by omega) rfl rfl rfl fun s2 hw2 hL2 _ => ?_
    have hsj : sortN l j ≠ 0 := by rw [← sortS_nat hj]; exact h
    have e0 : List.replicate (j + 1) (V.bool false) = (List.replicate (j + 1) false).map V.bool := by simp
    rw [e0, map_set_bool] at hL2
    have := ir_de_loop (l := l) (n := j + 1) (R := fun v1 s1 => Ls s1 1 v1 ((depsS l (j : Int)).map fun n => V.int .i64 n) (depsS l (j : Int)).length) (by omega) hb hlen (j + 1) (Nat.le_refl _) _ s2 0 ⟨by simp, fun i hi => ?_⟩ (by omega) hL2 fun w s hW => ?_
    · rw [show (((j + 1 : Nat) : Int) - 1) = (j : Int) by omega] at this
      exact this
    · by_cases hij : i = j
      · subst hij; exact hsj
      · rw [List.getD_eq_getElem?_getD, List.getElem?_set_ne (fun e => hij e.symm)] at hi
        simp [List.getElem?_replicate] at hi
        split at hi <;> simp at hi
    · have hd : depsS l (j : Int) = listed (marks l (j + 1) ((List.replicate (j + 1) false).set j true)) (j + 1) := by
        unfold depsS; rw [if_neg h]; rfl
      rw [hd]
      exact hW
theorem ir_Dependencies_pu {l : List Node} {i : Int} (hi : rng i) (hb : l.length < 1073741824) (hlen : ∀ k, (l.getD k default).kids.length < 1073741824) : Pu Pg F.ir_Dependencies [eNodes l, .int .i64 i] (eInts (depsS l i)) :=
  Pu.fz ir_Dependencies_k ((ir_Dependencies_l hi hb hlen).mono fun _ _ h => Ls.ints h)
theorem ir_Dependencies_pn {l : List Node} {i : Int} (hi : rng i) (hb : l.length < 1073741824) (hlen : ∀ k, (l.getD k default).kids.length < 1073741824) : Pn Pg F.ir_Dependencies [eNodes l, .int .i64 i] (eInts (depsS l i)) :=
  Pn.of ir_Dependencies_k.callable ((ir_Dependencies_l hi hb hlen).mono fun _ _ h => Ls.intsN h)
end Go.Am.Ytmjaimpkjjkliaa
