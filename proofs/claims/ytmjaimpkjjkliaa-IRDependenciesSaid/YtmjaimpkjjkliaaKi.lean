/- The generators: Pick, Word, Next, and what compares nodes. -/
import Derived.Test.YtmjaimpkjjkliaaKh
import Derived.Test.YtmjaimpkjjkliaaVkn
namespace Go.Am.Ytmjaimpkjjkliaa
open Go.Proofs
set_option linter.unusedVariables false

theorem fullingkeep_Pick_pu {x m : Int} (hm : 0 < m) (hm2 : m < 4611686018427387904) : Pu Pg F.fullingkeep_Pick [.int .i64 x, .int .i64 m] (.int .i64 (x % m)) := by
  refine Pu.fl fullingkeep_Pick_k rfl (fullingkeep_Pick_c (fullingkeep_Pick.p0_s fun _ => ?_))
  have hne : ¬ m = 0 := by omega
  have h3 : x.tmod m = if 0 ≤ x ∨ m ∣ x then x % m else x % m - m := by
    rw [Int.tmod_eq_emod]
    split
    · simp
    · rw [show (m.natAbs : Int) = m by omega]
  have h4 := Int.emod_nonneg x hne
  have h5 := Int.emod_lt_of_pos x hm
  rw [bin_rem hne, bo_some, bin_lss, bo_some, br_bool]
  by_cases hc : 0 ≤ x ∨ m ∣ x
  · rw [if_pos hc] at h3
    rw [h3, if_neg (by simp; omega)]
  · rw [if_neg hc] at h3
    rw [h3, if_pos (by simp; omega), bin_add (by omega) (by omega), bo_some, show x % m - m + m = x % m by omega]
theorem kp {s : S} {x m : Int} {Q : V → S → Prop} (hm : 0 < m) (hm2 : m < 4611686018427387904) (h : Q (.int .i64 (x % m)) s) : C Pg F.fullingkeep_Pick [.int .i64 x, .int .i64 m] s Q :=
  (fullingkeep_Pick_pu hm hm2).c (.cons (.int _ _) (.cons (.int _ _) .nil)) h
theorem mod_rng {x m : Int} (hm : 0 < m) : 0 ≤ x % m ∧ x % m < m := ⟨Int.emod_nonneg x (by omega), Int.emod_lt_of_pos x hm⟩

theorem rng_tdiv {n c : Int} (h : rng n) (hc : 2 ≤ c) : rng (n.tdiv c) := by
  have h1 : (n.tdiv c).natAbs = n.natAbs / c.natAbs := Int.natAbs_tdiv n c
  have h2 : n.natAbs / c.natAbs ≤ n.natAbs := Nat.div_le_self _ _
  have h3 : n.natAbs / c.natAbs ≤ n.natAbs / 2 := Nat.div_le_div_left (by omega) (by omega)
  unfold rng at h ⊢
  omega
theorem qk {n c : Int} {K : V → Prop} (h : rng n) (hc : 2 ≤ c) (hK : K (.int .i64 (n.tdiv c))) : bo (bin .quo (.int .i64 n) (.int .i64 c)) K := by
  have := rng_tdiv h hc
  rw [bin_quo (by omega) this.1 this.2, bo_some]; exact hK

def wordS (n raw : Int) : Int :=
  if n % 24 < 10 then ([0, 1, -1, 2, -9223372036854775808, 9223372036854775807, 4294967296, -2147483648, 63, 64] : List Int).getD (n % 24).toNat 0
  else if n % 24 < 22 then (n.tdiv 24) % 17 - 6 else raw
theorem wordS_rng {n raw : Int} (h : rng raw) : rng (wordS n raw) := by
  unfold wordS
  split
  · have := mod_rng (x := n) (m := 24) (by decide)
    obtain ⟨k, hk⟩ : ∃ k : Nat, n % 24 = k := ⟨(n % 24).toNat, by omega⟩
    rw [hk]
    have hk10 : k < 10 := by omega
    simp only [Int.toNat_natCast]
    have : ∀ k, k < 10 → rng (([0, 1, -1, 2, -9223372036854775808, 9223372036854775807, 4294967296, -2147483648, 63, 64] : List Int).getD k 0) := by unfold rng; decide
    exact this k hk10
  · split
    · have := mod_rng (x := n.tdiv 24) (m := 17) (by decide)
      unfold rng; omega
    · exact h
theorem fullingkeep_Word_pu {n raw : Int} (hn : rng n) : Pu Pg F.fullingkeep_Word [.int .i64 n, .int .i64 raw] (.int .i64 (wordS n raw)) := by
  refine Pu.fl fullingkeep_Word_k rfl (fullingkeep_Word_c (fullingkeep_Word.p0_s fun hw => ?_))
  refine is_nil.bslice rfl rfl fun s h => ?_
  refine kp (by decide) (by decide) ?_
  have h24 := mod_rng (x := n) (m := 24) (by decide)
  simp only [bin_lss, bo_some, br_bool, decide_eq_true_eq]
  unfold wordS
  split
  · rename_i h10
    obtain ⟨k, hk⟩ : ∃ k : Nat, n % 24 = k := ⟨(n % 24).toNat, by omega⟩
    have hk10 : k < 10 := by omega
    have hL : Ls s 1 (.sl 0 0 0 10 1) ((([0, 1, -1, 2, -9223372036854775808, 9223372036854775807, 4294967296, -2147483648, 63, 64] : List Int)).map fun n => V.int .i64 n) 10 :=
      .of rfl (h.get 0) (Nat.le_refl _)
    rw [hk]
    refine get_one hL hk10 (c := .int .i64 (([0, 1, -1, 2, -9223372036854775808, 9223372036854775807, 4294967296, -2147483648, 63, 64] : List Int).getD k 0)) ?_ rfl
    simp only [List.getElem?_map, List.getD_eq_getElem?_getD]
    rw [List.getElem?_eq_getElem (by simpa using hk10)]; rfl
  · split
    · refine qk hn (by decide) ?_
      refine kp (by decide) (by decide) ?_
      have := mod_rng (x := n.tdiv 24) (m := 17) (by decide)
      rw [bin_sub (by omega) (by omega), bo_some]
    · rfl

/-! ### Seeds -/
/-- A slice that reads as these numbers; its row is none of some. -/
def Rd (s : S) (v : V) (L : List Int) (X : Nat → Prop) : Prop :=
  (L = [] ∧ (v = .nils ∨ v = .emp)) ∨ ∃ id ep off e wr cells, v = .sl id ep off L.length 1 ∧ L ≠ [] ∧ s.h.get id = some (.row cells e wr) ∧ wr ≤ ep ∧ (cells.drop off).take L.length = L.map (fun n => V.int .i64 n) ∧ ¬ X id
theorem Rd.keep {s s' : S} {v : V} {L : List Int} {X Y : Nat → Prop} (h : Rd s v L X) (k : Keep s s' Y) (hy : ∀ i, Y i → X i) : Rd s' v L X := by
  rcases h with h | ⟨id, ep, off, e, wr, cells, h1, h2, h3, h4, h5, h6⟩
  · exact .inl h
  · exact .inr ⟨id, ep, off, e, wr, cells, h1, h2, k.get id _ h3 (fun hc => h6 (hy id hc)), h4, h5, h6⟩
theorem fullingkeep_Reader_Next_c' {s : S} {rid : Nat} {Lv lo : V} {L : List Int} {X : Nat → Prop} {Q : V → S → Prop} (hr : s.h.get rid = some (.row [Lv, lo] 0 0)) (hL : Rd s Lv L X) (hX : X rid)
    (hQ : ∀ Lv' s', WF s' → s'.h.get rid = some (.row [Lv', lo] 0 0) → Rd s' Lv' L.tail X → Keep s s' (fun i => i = rid) → s'.n = s.n → Q (.int .i64 (L.headD 0)) s') : C Pg F.fullingkeep_Reader_Next [.ptr rid 0 0 2] s Q := by
  refine fullingkeep_Reader_Next_c (fullingkeep_Reader_Next.p0_s fun hw => ?_)
  show bo (some (.ptr rid 0 0 2)) _
  rw [bo_some]
  refine fld hr (Nat.le_refl _) (by decide) rfl ?_
  rcases hL with ⟨rfl, hv⟩ | ⟨id, ep, off, e, wr, cells, rfl, h2, h3, h4, h5, h6⟩
  · have hlen : vLen Lv = some (.int .i64 ((0 : Nat) : Int)) := by rcases hv with rfl | rfl <;> rfl
    rw [hlen, bo_some, bin_eql, bo_some, br_bool, if_pos (by simp)]
    exact hQ Lv s hw hr (.inl ⟨rfl, hv⟩) (.refl hw _) rfl
  · obtain ⟨a, t, rfl⟩ : ∃ a t, L = a :: t := by cases L with | nil => exact absurd rfl h2 | cons a t => exact ⟨a, t, rfl⟩
    show bo (some (.int .i64 (((a :: t).length : Nat) : Int))) _
    rw [bo_some, bin_eql, bo_some, br_bool, if_neg (by simp; omega)]
    show bo (some (.ptr rid 0 0 2)) _
    rw [bo_some]
    refine fld hr (Nat.le_refl _) (by decide) rfl ?_
    have hcell : cells[off]? = some (.int .i64 a) := by
      have := congrArg (fun l => l[0]?) h5
      simpa using this
    have e1 : vIaddr 1 (.sl id ep off (a :: t).length 1) (.int .i64 0) = some (.ptr id ep off (off + 1)) := by
      simp only [vIaddr, natOf_zero]
      rw [show (Nat.blt 0 (a :: t).length && Nat.beq 1 1) = true by simp [Nat.blt]]
      simp
    rw [e1, bo_some, load_ptr h3 h4 (Nat.le_refl _) hcell, bo_some]
    show bo (some (.ptr rid 0 0 2)) _
    rw [bo_some]
    refine fld hr (Nat.le_refl _) (by decide) rfl ?_
    obtain ⟨Lv', hs, hok, hcl, hoc, hrd⟩ : ∃ Lv', vSlice 1 (.sl id ep off (a :: t).length 1) (some (.int .i64 1)) none = some Lv' ∧ Lv'.ok = true ∧ Lv'.cells = [Lv'] ∧ okCell Lv' = true ∧ ∀ s', s'.h.get id = some (.row cells e wr) → Rd s' Lv' t X := by
      simp only [vSlice, vBounds, natOf_one, List.length_cons]
      rw [show (Nat.ble 1 (t.length + 1) && Nat.ble (t.length + 1) (t.length + 1)) = true by simp]
      simp only [cond_true]
      cases t with
      | nil => exact ⟨.emp, rfl, rfl, rfl, rfl, fun _ _ => .inl ⟨rfl, .inr rfl⟩⟩
      | cons b t =>
        refine ⟨.sl id ep (off + 1) (b :: t).length 1, rfl, rfl, rfl, rfl, fun s' hs' => .inr ⟨id, ep, off + 1, e, wr, cells, rfl, by simp, hs', h4, ?_, h6⟩⟩
        have := congrArg (List.drop 1) h5
        rw [List.drop_take, List.drop_drop] at this
        simpa using this
    rw [hs, bo_some]
    show bo (some (.ptr rid 0 0 2)) _
    rw [bo_some]
    refine fst1 hw hr hok hcl hoc (by decide) (by simp) fun s' hw' hg' hK hn => ?_
    exact hQ Lv' s' hw' hg' (hrd s' (hK.get id _ h3 fun e => h6 (by rw [e]; exact hX))) hK hn

/-! ### Comparing nodes -/
theorem sn_p3 {a b : Node} (hb : a.kids.length < 1073741824) (hl : a.kids.length = b.kids.length) {R : V → S → Prop} {s : S} (h1 : s.h.get 0 = some (.row (eN a) 0 0)) (h2 : s.h.get 1 = some (.row (eN b) 0 0)) :
    ∀ m i, a.kids.length - i = m → i ≤ a.kids.length → R (.bool (decide (a.kids.drop i = b.kids.drop i))) s → fullingref7_SameNode.p3 R (.ptr 0 0 0 3) (.ptr 1 0 0 3) (.int .i64 (i : Int)) s := by
  intro m
  induction m with
  | zero =>
    intro i hm hi hR
    obtain rfl : i = a.kids.length := by omega
    refine fullingref7_SameNode.p3_s fun _ => ?_
    refine fld h1 (Nat.le_refl _) (by decide) rfl ?_
    simp only [vLen_eS, bo_some, bin_lss, br_bool, decide_eq_true_eq, Int.ofNat_lt, Nat.lt_irrefl, if_false]
    rw [List.drop_length, hl, List.drop_length] at hR
    simpa using hR
  | succ m ih =>
    intro i hm hi hR
    have k1 : i < a.kids.length := by omega
    have k2 : i < b.kids.length := by omega
    rw [drop_getD a.kids i k1, drop_getD b.kids i k2] at hR
    refine fullingref7_SameNode.p3_s fun _ => ?_
    refine fld h1 (Nat.le_refl _) (by decide) rfl ?_
    simp only [vLen_eS, bo_some, bin_lss, br_bool, decide_eq_true_eq, Int.ofNat_lt]
    rw [if_pos k1]
    refine fld h1 (Nat.le_refl _) (by decide) rfl (get_int k1 ?_)
    refine fld h2 (Nat.le_refl _) (by decide) rfl (get_int k2 ?_)
    rw [bin_neq, bo_some, br_bool]
    by_cases hx : a.kids.getD i 0 = b.kids.getD i 0
    · have hx' : a.kids.getD i default = b.kids.getD i default := hx
      rw [hx'] at hR
      simp only [List.cons.injEq, true_and] at hR
      rw [decide_eq_true hx, if_neg (by simp), bin_inc (by omega), bo_some]
      exact ih (i + 1) (by omega) (by omega) hR
    · have hx' : ¬ a.kids.getD i default = b.kids.getD i default := hx
      simp only [List.cons.injEq, hx', false_and, decide_false] at hR
      rw [decide_eq_false hx, if_pos (by simp)]
      exact hR
theorem fullingref7_SameNode_pu {a b : Node} (hb : a.kids.length < 1073741824) : Pu Pg F.fullingref7_SameNode [.agg (eN a), .agg (eN b)] (.bool (decide (a = b))) := by
  refine Pu.fl fullingref7_SameNode_k rfl (fullingref7_SameNode_c (fullingref7_SameNode.p0_s fun hw => ?_))
  refine is_nil.box rfl fun s1 g1 => ?_
  refine g1.box rfl fun s g => ?_
  have h1 : s.h.get 0 = some (.row (eN a) 0 0) := g.get 0
  have h2 : s.h.get 1 = some (.row (eN b) 0 0) := g.get 1
  show bo (vFaddr 0 (.ptr 0 0 0 3)) _
  have heq : decide (a = b) = (decide (a.op = b.op) && decide (a.imm = b.imm) && decide (a.kids = b.kids)) := by
    obtain ⟨x, y, z⟩ := a
    obtain ⟨x', y', z'⟩ := b
    rw [Bool.eq_iff_iff]; simp [Node.mk.injEq, and_assoc]
  rw [heq]
  generalize hA : decide (a.op = b.op) = A
  generalize hB : decide (a.imm = b.imm) = B
  have k2 : ∀ c : Bool, c = !(A && B && decide (a.kids.length = b.kids.length)) → fullingref7_SameNode.p2 (fun v1 _ => v1 = .bool (A && B && decide (a.kids = b.kids))) (.ptr 0 0 0 3) (.ptr 1 0 0 3) (.bool c) s := by
    intro c hc
    refine fullingref7_SameNode.p2_s fun _ => ?_
    rw [br_bool]
    split
    · rename_i h
      rw [h] at hc
      show _ = _
      by_cases hl : a.kids.length = b.kids.length
      · rw [decide_eq_true hl, Bool.and_true] at hc
        have : (A && B) = false := by cases hx : (A && B) <;> simp [hx] at hc ⊢
        rw [this]; rfl
      · have : ¬ a.kids = b.kids := fun e => hl (by rw [e])
        rw [decide_eq_false this, Bool.and_false]
    · rename_i h
      have h' : (A && B && decide (a.kids.length = b.kids.length)) = true := by
        cases hx : (A && B && decide (a.kids.length = b.kids.length)) with
        | true => rfl
        | false => rw [hx] at hc; exact absurd hc h
      simp only [Bool.and_eq_true, decide_eq_true_eq] at h'
      refine sn_p3 hb h'.2 h1 h2 a.kids.length 0 rfl (Nat.zero_le _) ?_
      rw [h'.1.1, h'.1.2]; rfl
  have k1 : ∀ c : Bool, c = !(A && B) → fullingref7_SameNode.p1 (fun v1 _ => v1 = .bool (A && B && decide (a.kids = b.kids))) (.ptr 0 0 0 3) (.ptr 1 0 0 3) (.bool c) s := by
    intro c hc
    refine fullingref7_SameNode.p1_s fun _ => ?_
    rw [br_bool]
    split
    · rename_i h
      rw [h] at hc
      refine k2 true ?_
      cases hx : (A && B) <;> simp [hx] at hc ⊢
    · rename_i h
      have h' : (A && B) = true := by
        cases hx : (A && B) with
        | true => rfl
        | false => rw [hx] at hc; exact absurd hc h
      refine fld h1 (Nat.le_refl _) (by decide) rfl ?_
      rw [vLen_eS, bo_some]
      refine fld h2 (Nat.le_refl _) (by decide) rfl ?_
      rw [vLen_eS, bo_some, bin_neq, bo_some]
      refine k2 _ ?_
      rw [h', Bool.true_and]
      congr 1
      rw [Bool.eq_iff_iff]; simp only [decide_eq_true_eq]; omega
  refine fld h1 (Nat.le_refl _) (by decide) rfl ?_
  refine fld h2 (Nat.le_refl _) (Nat.le_of_ble_eq_true rfl) rfl ?_
  rw [bin_neq, bo_some, hA, br_bool]
  split
  · rename_i h
    exact k1 true (by cases A <;> simp at h ⊢)
  · rename_i h
    have hA1 : A = true := by cases A <;> simp at h ⊢
    refine fld h1 (Nat.le_refl _) (Nat.le_of_ble_eq_true rfl) rfl ?_
    refine fld h2 (Nat.le_refl _) (Nat.le_of_ble_eq_true rfl) rfl ?_
    rw [bin_neq, bo_some, hB]
    exact k1 _ (by rw [hA1, Bool.true_and])

theorem co_p1 {l : List Node} {n : Node} (hb : l.length < 1073741824) (hlen : ∀ k, (l.getD k default).kids.length < 1073741824) {R : V → S → Prop} {s : S} (hs : s.h.get 0 = some (.row (eN n) 0 0)) :
    ∀ m i, l.length - i = m → i ≤ l.length → R (.bool (decide (n ∈ l.drop i))) s → fullingkeep_contains.p1 R (eNodes l) (.ptr 0 0 0 3) (.int .i64 (i : Int)) s := by
  intro m
  induction m with
  | zero =>
    intro i hm hi hR
    obtain rfl : i = l.length := by omega
    refine fullingkeep_contains.p1_s fun _ => ?_
    simp only [vLen_eS, bo_some, bin_lss, br_bool, decide_eq_true_eq, Int.ofNat_lt, Nat.lt_irrefl, if_false]
    simpa using hR
  | succ m ih =>
    intro i hm hi hR
    have k1 : i < l.length := by omega
    rw [drop_getD l i k1] at hR
    refine fullingkeep_contains.p1_s fun _ => ?_
    simp only [vLen_eS, bo_some, bin_lss, br_bool, decide_eq_true_eq, Int.ofNat_lt]
    rw [if_pos k1, vIaddr_nodes k1, bo_some, load_lptrk (by simp), bo_some]
    refine ldk hs (Nat.le_refl _) (by decide) ?_
    refine (fullingref7_SameNode_pu (a := l.getD i default) (b := n) (hlen i)).c (.cons (Cv.agg (.refl (eN_cv _))) (.cons (Cv.agg (.refl (eN_cv _))) .nil)) ?_
    rw [br_bool]
    by_cases hx : l.getD i default = n
    · rw [decide_eq_true hx, if_pos rfl]
      rw [decide_eq_true (show n ∈ l.getD i default :: l.drop (i + 1) from hx ▸ List.mem_cons_self)] at hR
      exact hR
    · rw [decide_eq_false hx, if_neg (by simp), bin_inc (by omega), bo_some]
      refine ih (i + 1) (by omega) (by omega) ?_
      have : (n ∈ l.getD i default :: l.drop (i + 1)) ↔ n ∈ l.drop (i + 1) := by
        rw [List.mem_cons]
        exact ⟨fun h => h.elim (fun e => absurd e.symm hx) id, .inr⟩
      rw [show decide (n ∈ l.getD i default :: l.drop (i + 1)) = decide (n ∈ l.drop (i + 1)) from decide_eq_decide.2 this] at hR
      exact hR
theorem fullingkeep_contains_pu {l : List Node} {n : Node} (hb : l.length < 1073741824) (hlen : ∀ k, (l.getD k default).kids.length < 1073741824) : Pu Pg F.fullingkeep_contains [eNodes l, .agg (eN n)] (.bool (decide (n ∈ l))) := by
  refine Pu.fl fullingkeep_contains_k rfl (fullingkeep_contains_c (fullingkeep_contains.p0_s fun hw => ?_))
  refine is_nil.box rfl fun s g => ?_
  exact co_p1 hb hlen (g.get 0) l.length 0 rfl (Nat.zero_le _) rfl

/-! ### Which sort an operand has -/
def osS (op j : Int) : Int := if j = 0 ∧ (op = 27 ∨ op = 28 ∨ op = 29 ∨ op = 23 ∨ op = 24) then 2 else 1
theorem fullingref15_Sort_pu (op : Int) : Pu Pg F.fullingref15_Sort [.int .i64 op] (.int .i64 (if op = 27 ∨ op = 28 ∨ op = 29 then 2 else 1)) := by
  refine Pu.fl fullingref15_Sort_k rfl (fullingref15_Sort_c (fullingref15_Sort.p0_s fun _ => ?_))
  have k2 : ∀ b : Bool, (b = true ↔ ((op = 27 ∨ op = 28) ∨ op = 29)) → fullingref15_Sort.p2 (fun v1 _ => v1 = .int .i64 (if op = 27 ∨ op = 28 ∨ op = 29 then 2 else 1)) (.bool b) ⟨.nil, 0⟩ := by
    intro b hb
    refine fullingref15_Sort.p2_s fun _ => ?_
    rw [br_bool]
    split
    · rename_i h; show _ = _; rw [if_pos (by have := hb.1 h; omega)]
    · rename_i h; show _ = _; rw [if_neg fun hc => h (hb.2 (by omega))]
  have k1 : ∀ b : Bool, (b = true ↔ (op = 27 ∨ op = 28)) → fullingref15_Sort.p1 (fun v1 _ => v1 = .int .i64 (if op = 27 ∨ op = 28 ∨ op = 29 then 2 else 1)) (.int .i64 op) (.bool b) ⟨.nil, 0⟩ := by
    intro b hb
    refine fullingref15_Sort.p1_s fun _ => ?_
    rw [br_bool, bin_eql, bo_some]
    exact or_next (B := op = 29) hb k2
  rw [bin_eql, bo_some, br_bool, bin_eql, bo_some]
  exact or_next (A := op = 27) (B := op = 28) (by simp) k1
theorem fullingref15_OperandSort_pu (op j : Int) : Pu Pg F.fullingref15_OperandSort [.int .i64 op, .int .i64 j] (.int .i64 (osS op j)) := by
  refine Pu.fl fullingref15_OperandSort_k rfl (fullingref15_OperandSort_c (fullingref15_OperandSort.p0_s fun _ => ?_))
  rw [bin_eql, bo_some, gT_bool]
  have k5 : ∀ b : Bool, (b = true ↔ (j = 0 ∧ (op = 27 ∨ op = 28 ∨ op = 29 ∨ op = 23 ∨ op = 24))) → fullingref15_OperandSort.p5 (fun v1 _ => v1 = .int .i64 (osS op j)) (.bool b) ⟨.nil, 0⟩ := by
    intro b hb
    refine fullingref15_OperandSort.p5_s fun _ => ?_
    unfold osS
    rw [br_bool]
    split
    · rename_i h; show _ = _; rw [if_pos (hb.1 h)]
    · rename_i h; show _ = _; rw [if_neg fun hc => h (hb.2 hc)]
  by_cases hj : j = 0
  · rw [decide_eq_true hj, if_pos rfl]
    refine (fullingref15_Sort_pu op).c (.cons (.int _ _) .nil) ?_
    rw [bin_eql, bo_some]
    have e2 : decide ((if op = 27 ∨ op = 28 ∨ op = 29 then (2 : Int) else 1) = 2) = decide (op = 27 ∨ op = 28 ∨ op = 29) := by
      by_cases h : op = 27 ∨ op = 28 ∨ op = 29
      · rw [if_pos h, decide_eq_true h]; rfl
      · rw [if_neg h, decide_eq_false h]; rfl
    rw [e2]
    refine fullingref15_OperandSort.p1_s fun _ => ?_
    rw [gF_bool]
    by_cases h : op = 27 ∨ op = 28 ∨ op = 29
    · rw [decide_eq_true h, if_pos rfl]
      refine fullingref15_OperandSort.p2_s fun _ => ?_
      rw [gT_bool, if_pos rfl, vPick_t, bo_some]
      refine fullingref15_OperandSort.p3_s fun _ => ?_
      rw [gF_bool, if_pos rfl]
      refine fullingref15_OperandSort.p4_s fun _ => ?_
      rw [br_bool, if_pos rfl, vPick_t, bo_some]
      exact k5 true (by simp [hj]; omega)
    · rw [decide_eq_false h, if_neg (by simp), bin_eql, bo_some]
      refine fullingref15_OperandSort.p2_s fun _ => ?_
      rw [gT_bool, if_pos rfl, vPick_f, bo_some]
      refine fullingref15_OperandSort.p3_s fun _ => ?_
      rw [gF_bool]
      split
      · rename_i h23
        have h23 : op = 23 := by simpa using h23
        refine fullingref15_OperandSort.p4_s fun _ => ?_
        rw [br_bool, if_pos rfl, decide_eq_true h23, vPick_t, bo_some]
        exact k5 true (by simp [hj, h23])
      · rename_i h23
        have h23 : op ≠ 23 := by simpa using h23
        rw [bin_eql, bo_some]
        refine fullingref15_OperandSort.p4_s fun _ => ?_
        rw [br_bool, if_pos rfl, decide_eq_false h23, vPick_f, bo_some]
        exact k5 _ (by simp [hj, h23]; omega)
  · rw [decide_eq_false hj, if_neg (by simp)]
    refine fullingref15_OperandSort.p1_s fun _ => ?_
    rw [gF_undef]
    refine fullingref15_OperandSort.p2_s fun _ => ?_
    rw [gT_bool, if_neg (by simp)]
    refine fullingref15_OperandSort.p3_s fun _ => ?_
    rw [gF_undef]
    refine fullingref15_OperandSort.p4_s fun _ => ?_
    rw [br_bool, if_neg (by simp)]
    exact k5 false (by simp [hj])
end Go.Am.Ytmjaimpkjjkliaa
