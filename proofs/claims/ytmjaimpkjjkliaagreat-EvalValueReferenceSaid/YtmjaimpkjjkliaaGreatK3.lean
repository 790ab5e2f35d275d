/- The generators: Pick, Word, Next, and what compares nodes. -/
import Derived.Test.YtmjaimpkjjkliaaGreatK2
import Derived.Test.YtmjaimpkjjkliaaGreatVkn
namespace Go.Am.YtmjaimpkjjkliaaGreat
open Go.Proofs
set_option linter.unusedVariables false

theorem fk_Pick_pu {x m : Int} (hm : 0 < m) (hm2 : m < 4611686018427387904) : Pu Pg F.fk_Pick [.int .i64 x, .int .i64 m] (.int .i64 (x % m)) := by
  refine Pu.fl fk_Pick_k rfl (fk_Pick_c (fk_Pick.p0_s fun _ => ?_))
  have hne : ¬ m = 0 := by omega
  have h3 : x.tmod m = if 0 ≤ x ∨ m ∣ x then x % m else x % m - m := by
    rw [Int.tmod_eq_emod]
    split
    · simp
    · rw [show (m.natAbs : Int) = m by omega]
  have h4 := Int.emod_nonneg x hne
  have h5 := Int.emod_lt_of_pos x hm
  rw [bin_rem hne, bo_some, bin_lss, bo_some, br_bool]
  by_cases hc : 0 ≤ x ∨ m ∣ x
  · rw [if_pos hc] at h3
    rw [h3, if_neg (by simp; omega)]
  · rw [if_neg hc] at h3
    rw [h3, if_pos (by simp; omega), bin_add (by omega) (by omega), bo_some, show x % m - m + m = x % m by omega]
theorem kp {s : S} {x m : Int} {Q : V → S → Prop} (hm : 0 < m) (hm2 : m < 4611686018427387904) (h : Q (.int .i64 (x % m)) s) : C Pg F.fk_Pick [.int .i64 x, .int .i64 m] s Q :=
  (fk_Pick_pu hm hm2).c (.cons (.int _ _) (.cons (.int _ _) .nil)) h
theorem mod_rng {x m : Int} (hm : 0 < m) : 0 ≤ x % m ∧ x % m < m := ⟨Int.emod_nonneg x (by omega), Int.emod_lt_of_pos x hm⟩

theorem rng_tdiv {n c : Int} (h : rng n) (hc : 2 ≤ c) : rng (n.tdiv c) := by
  have h1 : (n.tdiv c).natAbs = n.natAbs / c.natAbs := Int.natAbs_tdiv n c
  have h2 : n.natAbs / c.natAbs ≤ n.natAbs := Nat.div_le_self _ _
  have h3 : n.natAbs / c.natAbs ≤ n.natAbs / 2 := Nat.div_le_div_left (by omega) (by omega)
  unfold rng at h ⊢
  omega
theorem qk {n c : Int} {K : V → Prop} (h : rng n) (hc : 2 ≤ c) (hK : K (.int .i64 (n.tdiv c))) : bo (bin .quo (.int .i64 n) (.int .i64 c)) K := by
  have := rng_tdiv h hc
  rw [bin_quo (by omega) this.1 this.2, bo_some]; exact hK

def wordS (n raw : Int) : Int :=
  if n % 24 < 10 then ([0, 1, -1, 2, -9223372036854775808, 9223372036854775807, 4294967296, -2147483648, 63, 64] : List Int).getD (n % 24).toNat 0
  else if n % 24 < 22 then (n.tdiv 24) % 17 - 6 else raw
theorem wordS_rng {n raw : Int} (h : rng raw) : rng (wordS n raw) := by
  unfold wordS
  split
  · have := mod_rng (x := n) (m := 24) (by decide)
    obtain ⟨k, hk⟩ : ∃ k : Nat, n % 24 = k := ⟨(n % 24).toNat, by omega⟩
    rw [hk]
    have hk10 : k < 10 := by omega
    simp only [Int.toNat_natCast]
    have : ∀ k, k < 10 → rng (([0, 1, -1, 2, -9223372036854775808, 9223372036854775807, 4294967296, -2147483648, 63, 64] : List Int).getD k 0) := by unfold rng; decide
    exact this k hk10
  · split
    · have := mod_rng (x := n.tdiv 24) (m := 17) (by decide)
      unfold rng; omega
    · exact h
theorem fk_Word_pu {n raw : Int} (hn : rng n) : Pu Pg F.fk_Word [.int .i64 n, .int .i64 raw] (.int .i64 (wordS n raw)) := by
  refine Pu.fl fk_Word_k rfl (fk_Word_c (fk_Word.p0_s fun hw => ?_))
  refine is_nil.bslice rfl rfl fun s h => ?_
  refine kp (by decide) (by decide) ?_
  have h24 := mod_rng (x := n) (m := 24) (by decide)
  simp only [bin_lss, bo_some, br_bool, decide_eq_true_eq]
  unfold wordS
  split
  · rename_i h10
    obtain ⟨k, hk⟩ : ∃ k : Nat, n % 24 = k := ⟨(n % 24).toNat, by omega⟩
    have hk10 : k < 10 := by omega
    have hL : Ls s 1 (.sl 0 0 0 10 1) ((([0, 1, -1, 2, -9223372036854775808, 9223372036854775807, 4294967296, -2147483648, 63, 64] : List Int)).map fun n => V.int .i64 n) 10 :=
      .of rfl (h.get 0) (Nat.le_refl _)
    rw [hk]
    refine get_one hL hk10 (c := .int .i64 (([0, 1, -1, 2, -9223372036854775808, 9223372036854775807, 4294967296, -2147483648, 63, 64] : List Int).getD k 0)) ?_ rfl
    simp only [List.getElem?_map, List.getD_eq_getElem?_getD]
    rw [List.getElem?_eq_getElem (by simpa using hk10)]; rfl
  · split
    · refine qk hn (by decide) ?_
      refine kp (by decide) (by decide) ?_
      have := mod_rng (x := n.tdiv 24) (m := 17) (by decide)
      rw [bin_sub (by omega) (by omega), bo_some]
    · rfl

/-! ### Seeds -/
/-- A slice that reads as these numbers; its row is none of some. -/
def Rd (s : S) (v : V) (L : List Int) (X : Nat → Prop) : Prop :=
  (L = [] ∧ (v = .nils ∨ v = .emp)) ∨ ∃ id ep off e wr cells, v = .sl id ep off L.length 1 ∧ L ≠ [] ∧ s.h.get id = some (.row cells e wr) ∧ wr ≤ ep ∧ (cells.drop off).take L.length = L.map (fun n => V.int .i64 n) ∧ ¬ X id
theorem Rd.keep {s s' : S} {v : V} {L : List Int} {X Y : Nat → Prop} (h : Rd s v L X) (k : Keep s s' Y) (hy : ∀ i, Y i → X i) : Rd s' v L X := by
  rcases h with h | ⟨id, ep, off, e, wr, cells, h1, h2, h3, h4, h5, h6⟩
  · exact .inl h
  · exact .inr ⟨id, ep, off, e, wr, cells, h1, h2, k.get id _ h3 (fun hc => h6 (hy id hc)), h4, h5, h6⟩
theorem fk_Reader_Next_c' {s : S} {rid : Nat} {Lv lo : V} {L : List Int} {X : Nat → Prop} {Q : V → S → Prop} (hr : s.h.get rid = some (.row [Lv, lo] 0 0)) (hL : Rd s Lv L X) (hX : X rid)
    (hQ : ∀ Lv' s', WF s' → s'.h.get rid = some (.row [Lv', lo] 0 0) → Rd s' Lv' L.tail X → Keep s s' (fun i => i = rid) → s'.n = s.n → Q (.int .i64 (L.headD 0)) s') : C Pg F.fk_Reader_Next [.ptr rid 0 0 2] s Q := by
  refine fk_Reader_Next_c (fk_Reader_Next.p0_s fun hw => ?_)
  show bo (some (.ptr rid 0 0 2)) _
  rw [bo_some]
  refine fld hr (Nat.le_refl _) (by decide) rfl ?_
  rcases hL with ⟨rfl, hv⟩ | ⟨id, ep, off, e, wr, cells, rfl, h2, h3, h4, h5, h6⟩
  · have hlen : vLen Lv = some (.int .i64 ((0 : Nat) : Int)) := by rcases hv with rfl | rfl <;> rfl
    rw [hlen, bo_some, bin_eql, bo_some, br_bool, if_pos (by simp)]
    exact hQ Lv s hw hr (.inl ⟨rfl, hv⟩) (.refl hw _) rfl
  · obtain ⟨a, t, rfl⟩ : ∃ a t, L = a :: t := by cases L with | nil => exact absurd rfl h2 | cons a t => exact ⟨a, t, rfl⟩
    show bo (some (.int .i64 (((a :: t).length : Nat) : Int))) _
    rw [bo_some, bin_eql, bo_some, br_bool, if_neg (by simp; omega)]
    show bo (some (.ptr rid 0 0 2)) _
    rw [bo_some]
    refine fld hr (Nat.le_refl _) (by decide) rfl ?_
    have hcell : cells[off]? = some (.int .i64 a) := by
      have := congrArg (fun l => l[0]?) h5
      simpa using this
    have e1 : vIaddr 1 (.sl id ep off (a :: t).length 1) (.int .i64 0) = some (.ptr id ep off (off + 1)) := by
      simp only [vIaddr, natOf_zero]
      rw [show (Nat.blt 0 (a :: t).length && Nat.beq 1 1) = true by simp [Nat.blt]]
      simp
    rw [e1, bo_some, load_ptr h3 h4 (Nat.le_refl _) hcell, bo_some]
    show bo (some (.ptr rid 0 0 2)) _
    rw [bo_some]
    refine fld hr (Nat.le_refl _) (by decide) rfl ?_
    obtain ⟨Lv', hs, hok, hcl, hoc, hrd⟩ : ∃ Lv', vSlice 1 (.sl id ep off (a :: t).length 1) (some (.int .i64 1)) none = some Lv' ∧ Lv'.ok = true ∧ Lv'.cells = [Lv'] ∧ okCell Lv' = true ∧ ∀ s', s'.h.get id = some (.row cells e wr) → Rd s' Lv' t X := by
      simp only [vSlice, vBounds, natOf_one, List.length_cons]
      rw [show (Nat.ble 1 (t.length + 1) && Nat.ble (t.length + 1) (t.length + 1)) = true by simp]
      simp only [cond_true]
      cases t with
      | nil => exact ⟨.emp, rfl, rfl, rfl, rfl, fun _ _ => .inl ⟨rfl, .inr rfl⟩⟩
      | cons b t =>
        refine ⟨.sl id ep (off + 1) (b :: t).length 1, rfl, rfl, rfl, rfl, fun s' hs' => .inr ⟨id, ep, off + 1, e, wr, cells, rfl, by simp, hs', h4, ?_, h6⟩⟩
        have := congrArg (List.drop 1) h5
        rw [List.drop_take, List.drop_drop] at this
        simpa using this
    rw [hs, bo_some]
    show bo (some (.ptr rid 0 0 2)) _
    rw [bo_some]
    refine fst1 hw hr hok hcl hoc (by decide) (by simp) fun s' hw' hg' hK hn => ?_
    exact hQ Lv' s' hw' hg' (hrd s' (hK.get id _ h3 fun e => h6 (by rw [e]; exact hX))) hK hn

/-! ### Comparing nodes -/
theorem sn_p3 {a b : Node} (hb : a.kids.length < 1073741824) (hl : a.kids.length = b.kids.length) {R : V → S → Prop} {s : S} (h1 : s.h.get 0 = some (.row (eN a) 0 0)) (h2 : s.h.get 1 = some (.row (eN b) 0 0)) :
    ∀ m i, a.kids.length - i = m → i ≤ a.kids.length → R (.bool (decide (a.kids.drop i = b.kids.drop i))) s → r7_SameNode.p3 R (.ptr 0 0 0 3) (.ptr 1 0 0 3) (.int .i64 (i : Int)) s := by
  intro m
  induction m with
  | zero =>
    intro i hm hi hR
    obtain rfl : i = a.kids.length := by omega
    refine r7_SameNode.p3_s fun _ => ?_
    refine fld h1 (Nat.le_refl _) (by decide) rfl ?_
    simp only [vLen_eS, bo_some, bin_lss, br_bool, decide_eq_true_eq, Int.ofNat_lt, Nat.lt_irrefl, if_false]
    rw [List.drop_length, hl, List.drop_length] at hR
    simpa using hR
  | succ m ih =>
    intro i hm hi hR
    have k1 : i < a.kids.length := by omega
    have k2 : i < b.kids.length := by omega
    rw [drop_getD a.kids i k1, drop_getD b.kids i k2] at hR
    refine r7_SameNode.p3_s fun _ => ?_
    refine fld h1 (Nat.le_refl _) (by decide) rfl ?_
    simp only [vLen_eS, bo_some, bin_lss, br_bool, decide_eq_true_eq, Int.ofNat_lt]
    rw [if_pos k1]
    refine fld h1 (Nat.le_refl _) (by decide) rfl (get_int k1 ?_)
    refine fld h2 (Nat.le_refl _) (by decide) rfl (get_int k2 ?_)
    rw [bin_neq, bo_some, br_bool]
    by_cases hx : a.kids.getD i 0 = b.kids.getD i 0
    · have hx' : a.kids.getD i default = b.kids.getD i default := hx
      rw [hx'] at hR
      simp only [List.cons.injEq, true_and] at hR
      rw [decide_eq_true hx, if_neg (by simp), bin_inc (by omega), bo_some]
      exact ih (i + 1) (by omega) (by omega) hR
    · have hx' : ¬ a.kids.getD i default = b.kids.getD i default := hx
      simp only [List.cons.injEq, hx', false_and, decide_false] at hR
      rw [decide_eq_false hx, if_pos (by simp)]
      exact hR
theorem r7_SameNode_pu {a b : Node} (hb : a.kids.length < 1073741824) : Pu Pg F.r7_SameNode [.agg (eN a), .agg (eN b)] (.bool (decide (a = b))) := by
  refine Pu.fl r7_SameNode_k rfl (r7_SameNode_c (r7_SameNode.p0_s fun hw => ?_))
  refine is_nil.box rfl fun s1 g1 => ?_
  refine g1.box rfl fun s g => ?_
  have h1 : s.h.get 0 = some (.row (eN a) 0 0) := g.get 0
  have h2 : s.h.get 1 = some (.row (eN b) 0 0) := g.get 1
  show bo (vFaddr 0 (.ptr 0 0 0 3)) _
  have heq : decide (a = b) = (decide (a.op = b.op) && decide (a.imm = b.imm) && decide (a.kids = b.kids)) := by
    obtain ⟨x, y, z⟩ := a
    obtain ⟨x', y', z'⟩ := b
    rw [Bool.eq_iff_iff]; simp [Node.mk.injEq, and_assoc]
  rw [heq]
  generalize hA : decide (a.op = b.op) = A
  generalize hB : decide (a.imm = b.imm) = B
  have k2 : ∀ c : Bool, c = !(A && B && decide (a.kids.length = b.kids.length)) → r7_SameNode.p2 (fun v1 _ => v1 = .bool (A && B && decide (a.kids = b.kids))) (.ptr 0 0 0 3) (.ptr 1 0 0 3) (.bool c) s := by
    intro c hc
    refine r7_SameNode.p2_s fun _ => ?_
    rw [br_bool]
    split
    · rename_i h
      rw [h] at hc
      show _ = _
      by_cases hl : a.kids.length = b.kids.length
      · rw [decide_eq_true hl, Bool.and_true] at hc
        have : (A && B) = false := by cases hx : (A && B) <;> simp [hx] at hc ⊢
        rw [this]; rfl
      · have : ¬ a.kids = b.kids := fun e => hl (by rw [e])
        rw [decide_eq_false this, Bool.and_false]
    · rename_i h
      have h' : (A && B && decide (a.kids.length = b.kids.length)) = true := by
        cases hx : (A && B && decide (a.kids.length = b.kids.length)) with
        | true => rfl
        | false => rw [hx] at hc; exact absurd hc h
      simp only [Bool.and_eq_true, decide_eq_true_eq] at h'
      refine sn_p3 hb h'.2 h1 h2 a.kids.length 0 rfl (Nat.zero_le _) ?_
      rw [h'.1.1, h'.1.2]; rfl
  have k1 : ∀ c : Bool, c = !(A && B) → r7_SameNode.p1 (fun v1 _ => v1 = .bool (A && B && decide (a.kids = b.kids))) (.ptr 0 0 0 3) (.ptr 1 0 0 3) (.bool c) s := by
    intro c hc
    refine r7_SameNode.p1_s fun _ => ?_
    rw [br_bool]
    split
    · rename_i h
      rw [h] at hc
      refine k2 true ?_
      cases hx : (A && B) <;> simp [hx] at hc ⊢
    · rename_i h
      have h' : (A && B) = true := by
        cases hx : (A && B) with
        | true => rfl
        | false => rw [hx] at hc; exact absurd hc h
      refine fld h1 (Nat.le_refl _) (by decide) rfl ?_
      rw [vLen_eS, bo_some]
      refine fld h2 (Nat.le_refl _) (by decide) rfl ?_
      rw [vLen_eS, bo_some, bin_neq, bo_some]
      refine k2 _ ?_
      rw [h', Bool.true_and]
      congr 1
      rw [Bool.eq_iff_iff]; simp only [decide_eq_true_eq]; omega
  refine fld h1 (Nat.le_refl _) (by decide) rfl ?_
  refine fld h2 (Nat.le_refl _) (Nat.le_of_ble_eq_true rfl) rfl ?_
  rw [bin_neq, bo_some, hA, br_bool]
  split
  · rename_i h
    exact k1 true (by cases A <;> simp at h ⊢)
  · rename_i h
    have hA1 : A = true := by cases A <;> simp at h ⊢
    refine fld h1 (Nat.le_refl _) (Nat.le_of_ble_eq_true rfl) rfl ?_
    refine fld h2 (Nat.le_refl _) (Nat.le_of_ble_eq_true rfl) rfl ?_
    rw [bin_neq, bo_some, hB]
    exact k1 _ (by rw [hA1, Bool.true_and])

theorem co_p1 {l : List Node} {n : Node} (hb : l.length < 1073741824) (hlen : ∀ k, (l.getD k default).kids.length < 1073741824) {R : V → S → Prop} {s : S} (hs : s.h.get 0 = some (.row (eN n) 0 0)) :
    ∀ m i, l.length - i = m → i ≤ l.length → R (.bool (decide (n ∈ l.drop i))) s → fk_contains.p1 R (eNodes l) (.ptr 0 0 0 3) (.int .i64 (i : Int)) s := by
  intro m
  induction m with
  | zero =>
    intro i hm hi hR
    obtain rfl : i = l.length := by omega
    refine fk_contains.p1_s fun _ => ?_
    simp only [vLen_eS, bo_some, bin_lss, br_bool, decide_eq_true_eq, Int.ofNat_lt, Nat.lt_irrefl, if_false]
    simpa using hR
  | succ m ih =>
    intro i hm hi hR
    have k1 : i < l.length := by omega
    rw [drop_getD l i k1] at hR
    refine fk_contains.p1_s fun _ => ?_
    simp only [vLen_eS, bo_some, bin_lss, br_bool, decide_eq_true_eq, Int.ofNat_lt]
    rw [if_pos k1, vIaddr_nodes k1, bo_some, load_lptrk (by simp), bo_some]
    refine ldk hs (Nat.le_refl _) (by decide) ?_
    refine (r7_SameNode_pu (a := l.getD i default) (b := n) (hlen i)).c (.cons (Cv.agg (.refl (eN_cv _))) (.cons (Cv.agg (.refl (eN_cv _))) .nil)) ?_
    rw [br_bool]
    by_cases hx : l.getD i default = n
    · rw [decide_eq_true hx, if_pos rfl]
      rw [decide_eq_true (show n ∈ l.getD i default :: l.drop (i + 1) from hx ▸ List.mem_cons_self)] at hR
      exact hR
    · rw [decide_eq_false hx, if_neg (by simp), bin_inc (by omega), bo_some]
      refine ih (i + 1) (by omega) (by omega) ?_
      have : (n ∈ l.getD i default :: l.drop (i + 1)) ↔ n ∈ l.drop (i + 1) := by
        rw [List.mem_cons]
        exact ⟨fun h => h.elim (fun e => absurd e.symm hx) id, .inr⟩
      rw [show decide (n ∈ l.getD i default :: l.drop (i + 1)) = decide (n ∈ l.drop (i + 1)) from decide_eq_decide.2 this] at hR
      exact hR
theorem fk_contains_pu {l : List Node} {n : Node} (hb : l.length < 1073741824) (hlen : ∀ k, (l.getD k default).kids.length < 1073741824) : Pu Pg F.fk_contains [eNodes l, .agg (eN n)] (.bool (decide (n ∈ l))) := by
  refine Pu.fl fk_contains_k rfl (fk_contains_c (fk_contains.p0_s fun hw => ?_))
  refine is_nil.box rfl fun s g => ?_
  exact co_p1 hb hlen (g.get 0) l.length 0 rfl (Nat.zero_le _) rfl

/-! ### Which sort an operand has -/
def osS (op j : Int) : Int := if j = 0 ∧ (op = 27 ∨ op = 28 ∨ op = 29 ∨ op = 23 ∨ op = 24) then 2 else 1
theorem r15_Sort_pu (op : Int) : Pu Pg F.r15_Sort [.int .i64 op] (.int .i64 (if op = 27 ∨ op = 28 ∨ op = 29 then 2 else 1)) := by
  refine Pu.fl r15_Sort_k rfl (r15_Sort_c (r15_Sort.p0_s fun _ => ?_))
  have k2 : ∀ b : Bool, (b = true ↔ ((op = 27 ∨ op = 28) ∨ op = 29)) → r15_Sort.p2 (fun v1 _ => v1 = .int .i64 (if op = 27 ∨ op = 28 ∨ op = 29 then 2 else 1)) (.bool b) ⟨.nil, 0⟩ := by
    intro b hb
    refine r15_Sort.p2_s fun _ => ?_
    rw [br_bool]
    split
    · rename_i h; show _ = _; rw [if_pos (by have := hb.1 h; omega)]
    · rename_i h; show _ = _; rw [if_neg fun hc => h (hb.2 (by omega))]
  have k1 : ∀ b : Bool, (b = true ↔ (op = 27 ∨ op = 28)) → r15_Sort.p1 (fun v1 _ => v1 = .int .i64 (if op = 27 ∨ op = 28 ∨ op = 29 then 2 else 1)) (.int .i64 op) (.bool b) ⟨.nil, 0⟩ := by
    intro b hb
    refine r15_Sort.p1_s fun _ => ?_
    rw [br_bool, bin_eql, bo_some]
    exact or_next (B := op = 29) hb k2
  rw [bin_eql, bo_some, br_bool, bin_eql, bo_some]
  exact or_next (A := op = 27) (B := op = 28) (by simp) k1
theorem r15_OperandSort_pu (op j : Int) : Pu Pg F.r15_OperandSort [.int .i64 op, .int .i64 j] (.int .i64 (osS op j)) := by
  refine Pu.fl r15_OperandSort_k rfl (r15_OperandSort_c (r15_OperandSort.p0_s fun _ => ?_))
  rw [bin_eql, bo_some, gT_bool]
  have k5 : ∀ b : Bool, (b = true ↔ (j = 0 ∧ (op = 27 ∨ op = 28 ∨ op = 29 ∨ op = 23 ∨ op = 24))) → r15_OperandSort.p5 (fun v1 _ => v1 = .int .i64 (osS op j)) (.bool b) ⟨.nil, 0⟩ := by
    intro b hb
    refine r15_OperandSort.p5_s fun _ => ?_
    unfold osS
    rw [br_bool]
    split
    · rename_i h; show _ = _; rw [if_pos (hb.1 h)]
    · rename_i h; show _ = _; rw [if_neg fun hc => h (hb.2 hc)]
  by_cases hj : j = 0
  · rw [decide_eq_true hj, if_pos rfl]
    refine (r15_Sort_pu op).c (.cons (.int _ _) .nil) ?_
    rw [bin_eql, bo_some]
    have e2 : decide ((if op = 27 ∨ op = 28 ∨ op = 29 then (2 : Int) else 1) = 2) = decide (op = 27 ∨ op = 28 ∨ op = 29) := by
      by_cases h : op = 27 ∨ op = 28 ∨ op = 29
      · rw [if_pos h, decide_eq_true h]; rfl
      · rw [if_neg h, decide_eq_false h]; rfl
    rw [e2]
    refine r15_OperandSort.p1_s fun _ => ?_
    rw [gF_bool]
    by_cases h : op = 27 ∨ op = 28 ∨ op = 29
    · rw [decide_eq_true h, if_pos rfl]
      refine r15_OperandSort.p2_s fun _ => ?_
      rw [gT_bool, if_pos rfl, vPick_t, bo_some]
      refine r15_OperandSort.p3_s fun _ => ?_
      rw [gF_bool, if_pos rfl]
      refine r15_OperandSort.p4_s fun _ => ?_
      rw [br_bool, if_pos rfl, vPick_t, bo_some]
      exact k5 true (by simp [hj]; omega)
    · rw [decide_eq_false h, if_neg (by simp), bin_eql, bo_some]
      refine r15_OperandSort.p2_s fun _ => ?_
      rw [gT_bool, if_pos rfl, vPick_f, bo_some]
      refine r15_OperandSort.p3_s fun _ => ?_
      rw [gF_bool]
      split
      · rename_i h23
        have h23 : op = 23 := by simpa using h23
        refine r15_OperandSort.p4_s fun _ => ?_
        rw [br_bool, if_pos rfl, decide_eq_true h23, vPick_t, bo_some]
        exact k5 true (by simp [hj, h23])
      · rename_i h23
        have h23 : op ≠ 23 := by simpa using h23
        rw [bin_eql, bo_some]
        refine r15_OperandSort.p4_s fun _ => ?_
        rw [br_bool, if_pos rfl, decide_eq_false h23, vPick_f, bo_some]
        exact k5 _ (by simp [hj, h23]; omega)
  · rw [decide_eq_false hj, if_neg (by simp)]
    refine r15_OperandSort.p1_s fun _ => ?_
    rw [gF_undef]
    refine r15_OperandSort.p2_s fun _ => ?_
    rw [gT_bool, if_neg (by simp)]
    refine r15_OperandSort.p3_s fun _ => ?_
    rw [gF_undef]
    refine r15_OperandSort.p4_s fun _ => ?_
    rw [br_bool, if_neg (by simp)]
    exact k5 false (by simp [hj])
end Go.Am.YtmjaimpkjjkliaaGreat
namespace Go.Am.YtmjaimpkjjkliaaGreat
open Go.Proofs
set_option linter.unusedVariables false

theorem Pu.ex {α : Type} {f : Nat} {cf : CFn} (hc : Compiled Pg f cf) {args : List V} {p : α → Prop} {e : α → V} (h : C Pg f args ⟨.nil, 0⟩ fun v1 s1 => ∃ x, p x ∧ Fz s1.h v1 (e x)) : ∃ x, p x ∧ Pu Pg f args (e x) := by
  obtain ⟨v, s', h1, h2⟩ := h wf_empty
  obtain ⟨x, hp, hf⟩ := h2 h1.2.1.wf
  exact ⟨x, hp, Pu.of hc.callable fun _ => ⟨v, s', h1, fun _ => hf⟩⟩
theorem rd_of {row : Option Nat} {f : Heap → Option V} {v : V} {l : List (S × S)} (h : ∀ p ∈ l, f p.1.h = some v ∧ f p.2.h = some v) : rd row f v l := fun _ _ p hp => .inr (h p hp)

def idx (l : List Node) (sort : Int) (n : Nat) : List Int := ((List.range n).filter fun j => decide (sortN l j = sort)).map fun (j : Nat) => (j : Int)
theorem idx_succ (l : List Node) (sort : Int) (n : Nat) : idx l sort (n + 1) = if sortN l n = sort then idx l sort n ++ [(n : Int)] else idx l sort n := by
  unfold idx
  rw [List.range_succ, List.filter_append, List.map_append, List.filter_cons, List.filter_nil]
  by_cases h : sortN l n = sort
  · simp [h]
  · simp [h]
theorem idx_len (l : List Node) (sort : Int) (n : Nat) : (idx l sort n).length ≤ n := by
  unfold idx
  rw [List.length_map]
  exact Nat.le_trans (List.length_filter_le _ _) (by simp)
theorem idx_mem {l : List Node} {sort : Int} {n : Nat} {x : Int} (h : x ∈ idx l sort n) : ∃ j : Nat, x = j ∧ j < n ∧ sortN l j = sort := by
  unfold idx at h
  obtain ⟨j, hj, rfl⟩ := List.mem_map.1 h
  rw [List.mem_filter] at hj
  exact ⟨j, rfl, by simpa using hj.1, by simpa using hj.2⟩
theorem idx_pos {l : List Node} {sort : Int} {n j : Nat} (hj : j < n) (h : sortN l j = sort) : 0 < (idx l sort n).length := by
  have : (j : Int) ∈ idx l sort n := by
    unfold idx
    exact List.mem_map.2 ⟨j, List.mem_filter.2 ⟨by simpa using hj, by simpa using h⟩, rfl⟩
  exact List.length_pos_of_mem this

theorem of_p1 {l : List Node} (hb : l.length < 1073741824) {sort n : Int} (hp : 0 < (idx l sort l.length).length) {R : V → S → Prop} (hR : ∀ (r : Nat) s, r < l.length → sortN l r = sort → R (.int .i64 (r : Int)) s) :
    ∀ m i, l.length - i = m → i ≤ l.length → ∀ (w : V) (s : S), Ls s 1 w ((idx l sort i).map fun n => V.int .i64 n) (idx l sort i).length → fk_of.p1 R (eNodes l) (.int .i64 sort) (.int .i64 n) (eInts (sortsS l l.length)) w (.int .i64 (i : Int)) s := by
  intro m
  induction m with
  | zero =>
    intro i hm hi w s hW
    obtain rfl : i = l.length := by omega
    refine fk_of.p1_s fun hw => ?_
    simp only [vLen_eS, bin_lss, bo_some, br_bool, decide_eq_true_eq, Int.ofNat_lt, Nat.lt_irrefl, if_false]
    have hle := idx_len l sort l.length
    rw [hW.len, bo_some, bin_sub (by omega) (by omega), bo_some, bo_some]
    refine kp (by omega) (by omega) ?_
    have hm := mod_rng (x := n) (m := ((idx l sort l.length).length : Int)) (by omega)
    rw [bin_sub (by omega) (by omega), bo_some]
    obtain ⟨q, hq⟩ : ∃ q : Nat, ((idx l sort l.length).length : Int) - 1 - n % ((idx l sort l.length).length : Int) = q := ⟨(((idx l sort l.length).length : Int) - 1 - n % ((idx l sort l.length).length : Int)).toNat, by omega⟩
    rw [hq]
    have hql : q < (idx l sort l.length).length := by omega
    refine get_one hW hql (c := .int .i64 ((idx l sort l.length).getD q 0)) (by simp [List.getD, hql]) ?_
    have hmem : (idx l sort l.length).getD q 0 ∈ idx l sort l.length := by
      have : (idx l sort l.length).getD q 0 = (idx l sort l.length)[q] := by simp [List.getD, hql]
      rw [this]; exact List.getElem_mem _
    obtain ⟨r, hr, hr2, hr3⟩ := idx_mem hmem
    rw [hr]
    exact hR r s hr2 hr3
  | succ m ih =>
    intro i hm hi w s hW
    have h1 : i < l.length := by omega
    refine fk_of.p1_s fun hw => ?_
    simp only [vLen_eS, bin_lss, bo_some, br_bool, decide_eq_true_eq, Int.ofNat_lt]
    rw [if_pos h1]
    refine get_int (by rw [sortsS_len]; exact h1) ?_
    rw [sortsS_get h1, bin_eql, bo_some, br_bool]
    have hle := idx_len l sort i
    have hs := idx_succ l sort i
    split
    · rename_i h
      have h : sortN l i = sort := by simpa using h
      rw [if_pos h] at hs
      refine app_one (new := [.int .i64 (i : Int)]) hW hw rfl rfl rfl (by decide) (by omega) fun w' s' hw' hW' _ _ => ?_
      refine fk_of.p2_s fun _ => ?_
      rw [bin_inc (by omega), bo_some]
      refine ih (i + 1) (by omega) (by omega) w' s' ?_
      rw [hs, map_int_append]; simpa using hW'
    · rename_i h
      have h : ¬ sortN l i = sort := by simpa using h
      rw [if_neg h] at hs
      refine fk_of.p2_s fun _ => ?_
      rw [bin_inc (by omega), bo_some]
      exact ih (i + 1) (by omega) (by omega) w s (by rw [hs]; exact hW)
theorem fk_of_pu {l : List Node} (hb : l.length < 1073741824) (hlen : ∀ k, (l.getD k default).kids.length < 1073741824) {sort n : Int} {j : Nat} (hj : j < l.length) (hs : sortN l j = sort) :
    ∃ r : Nat, (r < l.length ∧ sortN l r = sort) ∧ Pu Pg F.fk_of [eNodes l, .int .i64 sort, .int .i64 n] (.int .i64 (r : Int)) := by
  refine Pu.ex fk_of_k (e := fun r : Nat => V.int .i64 (r : Int)) (fk_of_c (fk_of.p0_s fun hw => ?_))
  refine (r7_Sorts_pu hb hlen).c (.cons (cv_nodes _) .nil) ?_
  exact of_p1 hb (idx_pos hj hs) (fun r s h1 h2 => ⟨r, ⟨h1, h2⟩, (Cv.int _ _).fz⟩) l.length 0 rfl (Nat.zero_le _) _ _ (by simpa [idx] using Ls.nil)

/-! ### Memory of one's own -/
theorem bslk {s : S} {cells cs : List V} {len size : Nat} {ps : List (Nat × V)} {k : V → S → Prop} (hw : WF s) (he : vElems size cells ps = some cs) (hl : cs.length = len * size)
    (hk : ∀ s', WF s' → s'.n = s.n + 1 → s'.h.get s.n = some (.row cs 0 0) → Keep s s' (fun _ => False) → k (.sl s.n 0 0 len size) s') : bn s (nBslice cells len size ps) k := by
  rw [bn_bslice]; exact ⟨cs, he, hl, hk _ (hw.new _) rfl S.get_new_self (.new hw _ _)⟩
theorem boxk {s : S} {x : V} {cs : List V} {k : V → S → Prop} (hw : WF s) (hx : x.ok = true) (hc : x.cells = cs) (hk : ∀ s', WF s' → s'.n = s.n + 1 → s'.h.get s.n = some (.row cs 0 0) → Keep s s' (fun _ => False) → k (.ptr s.n 0 0 cs.length) s') : bn s (nBox x) k := by
  subst hc; rw [bn_box]; exact ⟨hx, hk _ (hw.new _) rfl S.get_new_self (.new hw _ _)⟩

/-! ### Nodes -/
def base3 : List Node := [⟨2, 0, []⟩, ⟨2, 1, []⟩, ⟨26, 0, []⟩]
structure NOk (x : List Node) : Prop where
  ok : ∀ n ∈ x, n.Ok
  small : ∀ n ∈ x, n.kids.length ≤ 3
  len : x.length < 1000
  base : x.take 3 = base3
theorem NOk.three {x : List Node} (h : NOk x) : 3 ≤ x.length := by
  have := congrArg List.length h.base
  simp [base3] at this; omega
theorem hlen_of {x : List Node} (h : ∀ n ∈ x, n.Ok) : ∀ k, (x.getD k default).kids.length < 1073741824 := by
  intro k
  by_cases hk : k < x.length
  · have : x.getD k default ∈ x := by
      have : x.getD k default = x[k] := by simp [List.getD, hk]
      rw [this]; exact List.getElem_mem _
    exact (h _ this).len
  · have : x.getD k default = default := by simp [List.getD, List.getElem?_eq_none (Nat.le_of_not_lt hk)]
    rw [this]; decide
theorem NOk.hlen {x : List Node} (h : NOk x) : ∀ k, (x.getD k default).kids.length < 1073741824 := hlen_of h.ok
theorem sortN_take {l : List Node} {n j : Nat} (hj : j < n) (hn : n ≤ l.length) : sortN (l.take n) j = sortN l j := by
  unfold sortN
  rw [sortAt_take hj hn, sortsS_take hn j (by omega)]
theorem NOk.sort {x : List Node} (h : NOk x) (op j : Int) : ∃ i, i < x.length ∧ sortN x i = osS op j := by
  have h3 := h.three
  unfold osS
  split
  · exact ⟨2, by omega, by rw [← sortN_take (n := 3) (by omega) h3, h.base]; decide⟩
  · exact ⟨0, by omega, by rw [← sortN_take (n := 3) (by omega) h3, h.base]; decide⟩

theorem rng_nat {n : Nat} (h : n < 1073741824) : rng (n : Int) := by unfold rng; omega
theorem CvL.append {a a' b b' : List V} (h : CvL a a') (k : CvL b b') : CvL (a ++ b) (a' ++ b') := fun M x I' hI hv => by
  have e : x = x.take a.length ++ x.drop a.length := (List.take_append_drop _ _).symm
  rw [e]
  exact (h M _ I' hI (by have := hv.take a.length; simpa using this)).append (k M _ I' hI (by have := hv.drop a.length; simpa using this))
/-- A slice of a row of nodes. -/
def Ln (s : S) (v : V) (x : List Node) : Prop := ∃ cs, Ls s 3 v cs x.length ∧ CvL cs (x.flatMap eN)
theorem Ln.nodes {s : S} {v : V} {x : List Node} (h : Ln s v x) : Fz s.h v (eNodes x) := by
  obtain ⟨cs, h1, h2⟩ := h
  exact h1.fz h2.fz
theorem Ln.keep {s s' : S} {v : V} {x : List Node} {X : Nat → Prop} (h : Ln s v x) (k : Keep s s' X) (hx : ∀ i, idOf v i → ¬ X i) : Ln s' v x := by
  obtain ⟨cs, h1, h2⟩ := h
  exact ⟨cs, h1.keep k hx, h2⟩
theorem Ln.id_lt {s : S} {v : V} {x : List Node} (h : Ln s v x) (hw : WF s) {i : Nat} (hi : idOf v i) : i < s.n := by
  obtain ⟨cs, h, _⟩ := h
  rcases h.2 with ⟨rfl, _⟩ | ⟨id, ep, wr, rfl, hg, _⟩
  · cases hi
  · cases hi; exact hw.lt hg

/-- What lies about where Nodes makes a node: the list, the seeds, the node. -/
structure NB (s : S) (v : V) (x : List Node) (rid nid sid : Nat) (lo : V) (L : List Int) (op imm : Int) (kv : V) (ks : List Int) : Prop where
  wf : WF s
  out : Ln s v x
  rdr : ∃ Lv, s.h.get rid = some (.row [Lv, lo] 0 0) ∧ Rd s Lv L (fun i => i ≠ sid)
  sd : ∃ cells e wr, s.h.get sid = some (.row cells e wr)
  nd : s.h.get nid = some (.row [.int .i64 op, .int .i64 imm, kv] 0 0)
  kid : Ls s 1 kv (ks.map fun n => V.int .i64 n) ks.length
  d1 : rid ≠ nid
  d2 : ¬ idOf v rid
  d3 : ¬ idOf v nid
  d4 : ¬ idOf kv rid
  d5 : ¬ idOf kv nid
  d6 : ∀ i, idOf kv i → ¬ idOf v i
  e1 : sid ≠ rid
  e2 : sid ≠ nid
  e3 : ¬ idOf kv sid
  e4 : ¬ idOf v sid

section
variable {s s' : S} {v : V} {x : List Node} {rid nid sid : Nat} {lo : V} {L : List Int} {op imm op' imm' : Int} {kv : V} {ks : List Int}
theorem NB.new (h : NB s v x rid nid sid lo L op imm kv ks) (k : Keep s s' fun _ => False) : NB s' v x rid nid sid lo L op imm kv ks := by
  obtain ⟨Lv, h1, h2⟩ := h.rdr
  obtain ⟨c, e, w, h3⟩ := h.sd
  exact ⟨k.wf, Ln.keep h.out k fun _ _ h => h, ⟨Lv, k.get _ _ h1 id, h2.keep k fun _ h => h.elim⟩, ⟨c, e, w, k.get _ _ h3 id⟩, k.get _ _ h.nd id, h.kid.keep k fun _ _ h => h, h.d1, h.d2, h.d3, h.d4, h.d5, h.d6, h.e1, h.e2, h.e3, h.e4⟩
theorem NB.node (h : NB s v x rid nid sid lo L op imm kv ks) (k : Keep s s' fun i => i = nid)
    (hn : s'.h.get nid = some (.row [.int .i64 op', .int .i64 imm', kv] 0 0)) : NB s' v x rid nid sid lo L op' imm' kv ks := by
  obtain ⟨Lv, h1, h2⟩ := h.rdr
  obtain ⟨c, e, w, h3⟩ := h.sd
  exact ⟨k.wf, Ln.keep h.out k fun i hi e => h.d3 (e ▸ hi), ⟨Lv, k.get _ _ h1 h.d1, h2.keep k fun i e => by rw [e]; exact fun e => h.e2 e.symm⟩, ⟨c, e, w, k.get _ _ h3 h.e2⟩, hn, h.kid.keep k fun i hi e => h.d5 (e ▸ hi), h.d1, h.d2, h.d3, h.d4, h.d5, h.d6, h.e1, h.e2, h.e3, h.e4⟩
theorem NB.fresh (h : NB s v x rid nid sid lo L op imm kv ks) (k : Keep s s' fun i => i = nid)
    (hn : s'.h.get nid = some (.row [.int .i64 op', .int .i64 imm', .nils] 0 0)) : NB s' v x rid nid sid lo L op' imm' .nils [] := by
  obtain ⟨Lv, h1, h2⟩ := h.rdr
  obtain ⟨c, e, w, h3⟩ := h.sd
  exact ⟨k.wf, Ln.keep h.out k fun i hi e => h.d3 (e ▸ hi), ⟨Lv, k.get _ _ h1 h.d1, h2.keep k fun i e => by rw [e]; exact fun e => h.e2 e.symm⟩, ⟨c, e, w, k.get _ _ h3 h.e2⟩, hn, .nil, h.d1, h.d2, h.d3, id, id, fun _ h => h.elim, h.e1, h.e2, id, h.e4⟩
/-- The next seed has been read. -/
theorem NB.next {Lv' : V} {L' : List Int} (h : NB s v x rid nid sid lo L op imm kv ks) (k : Keep s s' fun i => i = rid) (hr : s'.h.get rid = some (.row [Lv', lo] 0 0)) (hL : Rd s' Lv' L' fun i => i ≠ sid) :
    NB s' v x rid nid sid lo L' op imm kv ks := by
  obtain ⟨c, e, w, h3⟩ := h.sd
  exact ⟨k.wf, Ln.keep h.out k fun i hi e => h.d2 (e ▸ hi), ⟨Lv', hr, hL⟩, ⟨c, e, w, k.get _ _ h3 h.e1⟩, k.get _ _ h.nd fun e => h.d1 e.symm, h.kid.keep k fun i hi e => h.d4 (e ▸ hi), h.d1, h.d2, h.d3, h.d4, h.d5, h.d6, h.e1, h.e2, h.e3, h.e4⟩
/-- An operand has been added. -/
theorem NB.app {s1 s2 : S} {kv' : V} {t : Int} (h : NB s v x rid nid sid lo L op imm kv ks) (k : Keep s s1 (idOf kv)) (hk : Ls s1 1 kv' ((ks ++ [t]).map fun n => V.int .i64 n) (ks.length + 1)) (hid : ∀ i, idOf kv' i → idOf kv i ∨ s.n ≤ i)
    (k2 : Keep s1 s2 fun i => i = nid) (hn : s2.h.get nid = some (.row [.int .i64 op, .int .i64 imm, kv'] 0 0)) : NB s2 v x rid nid sid lo L op imm kv' (ks ++ [t]) := by
  obtain ⟨Lv, h1, h2⟩ := h.rdr
  obtain ⟨c, e, w, h3⟩ := h.sd
  have hwf := h.wf
  have hlt : ∀ {i ob}, s.h.get i = some ob → ¬ idOf kv i → ¬ idOf kv' i := fun hg hn hc => by
    rcases hid _ hc with h | h
    · exact hn h
    · have := hwf.lt hg; omega
  have g5 := hlt h.nd h.d5
  exact ⟨k2.wf, Ln.keep (Ln.keep h.out k fun i hi hc => h.d6 i hc hi) k2 fun i hi e => h.d3 (e ▸ hi), ⟨Lv, k2.get _ _ (k.get _ _ h1 h.d4) h.d1, (h2.keep k fun i hi e => h.e3 (e ▸ hi)).keep k2 fun i e => by rw [e]; exact fun e => h.e2 e.symm⟩,
    ⟨c, e, w, k2.get _ _ (k.get _ _ h3 h.e3) h.e2⟩, hn, by rw [List.length_append]; exact hk.keep k2 fun i hi e => g5 (e ▸ hi), h.d1, h.d2, h.d3, hlt h1 h.d4, g5, fun i hi hc => by
      rcases hid _ hi with h' | h'
      · exact h.d6 i h' hc
      · have := Ln.id_lt h.out h.wf hc; omega, h.e1, h.e2, hlt h3 h.e3, h.e4⟩
theorem NB.lit (h : NB s v x rid nid sid lo L op imm kv ks) : Fz s.h v (eNodes x) := Ln.nodes h.out
/-- The operands' row, or the seeds' where there are none. -/
theorem NB.freeze (h : NB s v x rid nid sid lo L op imm kv ks) : ∃ id cells e wr, s.h.get id = some (.row cells e wr) ∧ nid ≠ id ∧ ¬ idOf v id ∧ D1 s id kv (eInts ks) := by
  rcases h.kid.2 with ⟨rfl, hn⟩ | ⟨id, ep, wr, rfl, hg, hwr⟩
  · obtain ⟨c, e, w, h3⟩ := h.sd
    have : ks = [] := by simpa using hn
    subst this
    exact ⟨sid, c, e, w, h3, fun e => h.e2 e.symm, h.e4, .cv .nilsE⟩
  · refine ⟨id, _, ep, wr, hg, fun e => h.d5 (by rw [e]; rfl), h.d6 id rfl, ?_⟩
    cases ks with
    | nil => exact .sl0
    | cons a t =>
      have := D1.sl (s := s) (id := id) (off := 0) (len := (a :: t).length) (sz := 1) hg
      have e : ((a :: t).map fun n => V.int .i64 n).take ((a :: t).length * 1) = (a :: t).flatMap Go.Am.e1 := by rw [Nat.mul_one, flat_e1]; exact List.take_of_length_le (by simp)
      rw [List.drop_zero, e] at this
      exact this
end
theorem get_kill2 {s : S} {id j i : Nat} {ob : Ob} : (s.kill2 id j ob).h.get i = if i = j then some ob else if i = id then some .dead else s.h.get i := by
  show ((s.h.set id .dead).set j ob).get i = _
  rw [Tr.get_set, Tr.get_set]
end Go.Am.YtmjaimpkjjkliaaGreat
namespace Go.Am.YtmjaimpkjjkliaaGreat
open Go.Proofs
set_option linter.unusedVariables false

theorem arity_small (op : Int) : (arityS op).1 ≤ 3 := by
  unfold arityS
  repeat' split
  all_goals decide

theorem vEl_node (n : Node) (a b c : V) : vElems 3 [a, b, c] [(0, .agg (eN n))] = some (eN n) := by
  have h : V.ok (.agg (eN n)) = true := rfl
  show (bif V.ok (.agg (eN n)) && Nat.beq (V.agg (eN n)).cells.length 3 && Nat.ble (0 * 3 + 3) 3 then vElems 3 (setAt [a, b, c] (0 * 3) (V.agg (eN n)).cells) [] else none) = _
  rw [h]; rfl
theorem ok_eN {n : Node} : okCells (eN n) = true := by
  show (true && (true && (okCell (eInts n.kids) && true))) = true
  rw [okCell_eS]; rfl
/-- What Nodes has made so far. -/
structure Out (s : S) (v : V) (x : List Node) (i : Nat) : Prop where
  wf : WF s
  out : Ln s v x
  ok : NOk x
  len : x.length ≤ 3 + i

section
variable {l : List Int} {i : Nat} {R : V → S → Prop} {x1 v lo : V} {x : List Node} {rid nid sid : Nat}
/-- How the list goes on behind the node. -/
abbrev Kn (R : V → S → Prop) (l : List Int) (x1 : V) (i : Nat) : Prop := ∀ v x s, Out s v x (i + 1) → fk_Nodes.p10 R (eInts l) x1 v (.int .i64 (i : Int)) s

theorem no_p9 (K : Kn R l x1 i) {s : S} {L ks : List Int} {op imm : Int} {kv : V} (h : NB s v x rid nid sid lo L op imm kv ks) (hx : NOk x) (hlen : x.length ≤ 3 + i) (hi : i < 14) (ho : rng op) (him : rng imm) (hk : ∀ t ∈ ks, rng t) (hkl : ks.length ≤ 3) :
    fk_Nodes.p9 R (eInts l) x1 v (.int .i64 (i : Int)) (.ptr nid 0 0 3) s := by
  refine fk_Nodes.p9_s fun hw => ?_
  refine ldk h.nd (Nat.le_refl _) (Nat.le_refl _) ?_
  obtain ⟨id, cells, e, wr, hr, hne, hv, hd⟩ := h.freeze
  have hdj : ∀ (i : Nat) (a b : V), ([.int .i64 op, .int .i64 imm, kv] : List V)[i]? = some a → (eN ⟨op, imm, ks⟩)[i]? = some b → D1 s id a b := by
    intro i a b ha hb
    match i with
    | 0 => simp [eN] at ha hb; subst ha; subst hb; exact .refl _
    | 1 => simp [eN] at ha hb; subst ha; subst hb; exact .refl _
    | 2 => simp [eN] at ha hb; subst ha; subst hb; exact hd
    | i + 3 => simp at ha
  have hL2 : Ln (s.kill2 id nid (.row (eN ⟨op, imm, ks⟩) 0 0)) v x := by
    obtain ⟨cs, h1, h2⟩ := h.out
    refine ⟨cs, ⟨h1.1, h1.2.imp_right ?_⟩, h2⟩
    rintro ⟨id', ep, wr', rfl, hg, hwr⟩
    refine ⟨id', ep, wr', rfl, ?_, hwr⟩
    rw [get_kill2, if_neg (fun e => h.d3 (by rw [← e]; rfl)), if_neg (fun e => hv (by rw [← e]; rfl))]; exact hg
  have hnd2 : (s.kill2 id nid (.row (eN ⟨op, imm, ks⟩) 0 0)).h.get nid = some (.row (eN ⟨op, imm, ks⟩) 0 0) := by rw [get_kill2, if_pos rfl]
  have hw2 := S.kill2_wf (ob := .row (eN ⟨op, imm, ks⟩) 0 0) hw hr h.nd hne
  refine C.pre2 (args1 := [v, .agg (eN ⟨op, imm, ks⟩)]) (cs' := eN ⟨op, imm, ks⟩) (wrj := 0) hr h.nd hne rfl hdj (.cons (.refl _) (.cons (.agg (.cons (.refl _) (.cons (.refl _) (.cons hd .nil)))) .nil)) ?_
  refine (fk_contains_pu (l := x) (n := ⟨op, imm, ks⟩) (by omega) hx.hlen).s rfl (.cons (Ln.nodes hL2) (.cons (Cv.agg (.refl (eN_cv _))).fz .nil)) ?_
  rw [un_not, bo_some, br_bool]
  split
  · refine ldk hnd2 (Nat.le_refl _) (Nat.le_refl _) ?_
    obtain ⟨cs2, g1, g2⟩ := hL2
    refine app_one (new := eN ⟨op, imm, ks⟩) g1 hw2 (vEl_node _ _ _ _) rfl ok_eN (by decide) (by omega) fun v' s' hw' hL' _ _ => ?_
    refine K v' (x ++ [⟨op, imm, ks⟩]) s' ⟨hw', ⟨_, by simpa using hL', ?_⟩, ⟨fun n hn => ?_, fun n hn => ?_, by simp; omega, ?_⟩, by simp; omega⟩
    · rw [List.flatMap_append]
      exact CvL.append g2 (by simpa using CvL.refl (eN_cv _))
    · rcases List.mem_append.1 hn with h' | h'
      · exact hx.ok n h'
      · simp at h'; subst h'; exact ⟨ho, him, hk, by show ks.length < _; omega⟩
    · rcases List.mem_append.1 hn with h' | h'
      · exact hx.small n h'
      · simp at h'; subst h'; exact hkl
    · rw [List.take_append_of_le_length hx.three]; exact hx.base
  · exact K v x _ ⟨hw2, hL2, hx, by omega⟩

theorem no_p8 (hl : ∀ k, rng (l.getD k 0)) (hil : i < l.length) (K : Kn R l x1 i) {s : S} {L ks : List Int} {op imm : Int} {kv : V} (h : NB s v x rid nid sid lo L op imm kv ks) (hx : NOk x) (hlen : x.length ≤ 3 + i) (hi : i < 14) (ho : rng op) (him : rng imm)
    (hk : ∀ t ∈ ks, rng t) (hkl : ks.length ≤ 3) (c : Bool) : fk_Nodes.p8 R (eInts l) x1 v (.int .i64 (i : Int)) (.ptr nid 0 0 3) (.bool c) s := by
  refine fk_Nodes.p8_s fun hw => ?_
  rw [br_bool]
  split
  · refine get_int hil ?_
    refine qk (hl i) (by decide) ?_
    refine kp (by decide) (by decide) ?_
    have hm := mod_rng (x := (l.getD i 0).tdiv 5) (m := 2) (by decide)
    refine fst1 hw h.nd rfl rfl rfl (by decide) (by simp) fun s' hw' hg' hK _ => ?_
    exact no_p9 K (h.node hK hg') hx hlen hi ho (by unfold rng; omega) hk hkl
  · exact no_p9 K h hx hlen hi ho him hk hkl

theorem no_p7 (hl : ∀ k, rng (l.getD k 0)) (hil : i < l.length) (K : Kn R l x1 i) {s : S} {L ks : List Int} {op imm : Int} {kv : V} (h : NB s v x rid nid sid lo L op imm kv ks) (hx : NOk x) (hlen : x.length ≤ 3 + i) (hi : i < 14) (ho : rng op) (him : rng imm)
    (hk : ∀ t ∈ ks, rng t) (hkl : ks.length ≤ 3) : fk_Nodes.p7 R (eInts l) x1 v (.int .i64 (i : Int)) (.ptr nid 0 0 3) s := by
  refine fk_Nodes.p7_s fun hw => ?_
  refine fld h.nd (Nat.le_refl _) (by decide) rfl ?_
  rw [bin_eql, bo_some, br_bool]
  split
  · exact no_p8 hl hil K h hx hlen hi ho him hk hkl true
  · refine fld h.nd (Nat.le_refl _) (by decide) rfl ?_
    rw [bin_eql, bo_some]
    exact no_p8 hl hil K h hx hlen hi ho him hk hkl _

theorem no_p6 (hl : ∀ k, rng (l.getD k 0)) (hil : i < l.length) (K : Kn R l x1 i) (hx : NOk x) (hlen : x.length ≤ 3 + i) (hi : i < 14) {op imm : Int} (ho : rng op) (him : rng imm) {k : Int} (hk3 : k ≤ 3) :
    ∀ m j, (k - (j : Nat)).toNat = m → j ≤ 3 → ∀ (s : S) (L ks : List Int) (kv : V), NB s v x rid nid sid lo L op imm kv ks → ks.length = j → (∀ t ∈ ks, rng t) →
      fk_Nodes.p6 R (eInts l) x1 v (.int .i64 (i : Int)) (.ptr rid 0 0 2) (.ptr nid 0 0 3) (.int .i64 k) (.int .i64 (j : Int)) s := by
  intro m
  induction m with
  | zero =>
    intro j hm hj s L ks kv h hkj hk
    refine fk_Nodes.p6_s fun hw => ?_
    rw [bin_lss, bo_some, br_bool, if_neg (by simp; omega)]
    refine fld h.nd (Nat.le_refl _) (by decide) rfl ?_
    rw [bin_eql, bo_some, br_bool]
    split
    · refine get_int hil ?_
      refine qk (hl i) (by decide) ?_
      refine kp (by decide) (by decide) ?_
      have hm := mod_rng (x := (l.getD i 0).tdiv 5) (m := 2) (by decide)
      rw [bin_add (by omega) (by omega), bo_some]
      refine fst1 hw h.nd rfl rfl rfl (by decide) (by simp) fun s' hw' hg' hK _ => ?_
      exact no_p7 hl hil K (h.node hK hg') hx hlen hi ho (by unfold rng; omega) hk (by omega)
    · exact no_p7 hl hil K h hx hlen hi ho him hk (by omega)
  | succ m ih =>
    intro j hm hj s L ks kv h hkj hk
    refine fk_Nodes.p6_s fun hw => ?_
    rw [bin_lss, bo_some, br_bool, if_pos (by simp; omega)]
    refine fld h.nd (Nat.le_refl _) (by decide) rfl ?_
    refine (r15_OperandSort_pu op j).c (.cons (.int _ _) (.cons (.int _ _) .nil)) ?_
    obtain ⟨Lv, hr, hL⟩ := h.rdr
    refine fk_Reader_Next_c' hr hL (fun e => h.e1 e.symm) fun Lv' s1 hw1 hr1 hL1 hK1 hn1 => ?_
    have h1 := h.next hK1 hr1 hL1
    obtain ⟨q, hq, hqs⟩ := hx.sort op j
    obtain ⟨r, ⟨hr2, hr3⟩, hof⟩ := fk_of_pu (l := x) (by omega) hx.hlen (sort := osS op j) (n := L.headD 0) hq hqs
    refine hof.s rfl (.cons h1.lit (.cons (Cv.int _ _).fz (.cons (Cv.int _ _).fz .nil))) ?_
    rw [vFaddr_ptr, bo_some, load_ptr (c := kv) h1.nd (Nat.le_refl _) (by decide) rfl, bo_some]
    refine ⟨rd_of fun p hp => ?_, ?_⟩
    · have a1 : loadAt s.h none (.ptr nid 0 (0 + 2) 3) = some kv := load_ptr h.nd (Nat.le_refl _) (by decide) rfl
      have a2 : loadAt s1.h none (.ptr nid 0 (0 + 2) 3) = some kv := load_ptr h1.nd (Nat.le_refl _) (by decide) rfl
      simp only [List.mem_cons, List.not_mem_nil, or_false] at hp
      rcases hp with rfl | rfl | rfl
      · exact ⟨a1, a1⟩
      · exact ⟨a1, a2⟩
      · exact ⟨a2, a2⟩
    · refine app_one (new := [.int .i64 (r : Int)]) h1.kid hw1 rfl rfl rfl (by decide) (by omega) fun kv' s2 hw2 hk2 hK2 hid => ?_
      have hnd2 := hK2.get _ _ h1.nd h1.d5
      refine fst1 (off := 0) (lim := 3) (k := 2) hw2 hnd2 ?_ ?_ ?_ (by decide) (by simp) fun s3 hw3 hg3 hK3 _ => ?_
      · rcases hk2.2 with ⟨rfl, _⟩ | ⟨_, _, _, rfl, _⟩ <;> rfl
      · rcases hk2.2 with ⟨rfl, _⟩ | ⟨_, _, _, rfl, _⟩ <;> rfl
      · rcases hk2.2 with ⟨rfl, _⟩ | ⟨_, _, _, rfl, _⟩ <;> rfl
      · rw [bin_inc (by omega), bo_some]
        have h3 := h1.app (t := (r : Int)) hK2 (by rw [map_int_append]; exact hk2) hid hK3 hg3
        refine ih (j + 1) (by omega) (by omega) s3 _ _ _ h3 (by simp [hkj]) fun t ht => ?_
        rcases List.mem_append.1 ht with h' | h'
        · exact hk t h'
        · simp at h'; subst h'; exact rng_nat (by omega)

theorem no_p5 (hl : ∀ k, rng (l.getD k 0)) (hil : i < l.length) (K : Kn R l x1 i) (hx : NOk x) (hlen : x.length ≤ 3 + i) (hi : i < 14) {op imm : Int} (ho : rng op) (him : rng imm) {s : S} {L : List Int} (h : NB s v x rid nid sid lo L op imm .nils []) :
    fk_Nodes.p5 R (eInts l) x1 v (.int .i64 (i : Int)) (.ptr rid 0 0 2) (.ptr nid 0 0 3) s := by
  refine fk_Nodes.p5_s fun hw => ?_
  refine fld h.nd (Nat.le_refl _) (by decide) rfl ?_
  refine (r7_Arity_pu op).c (.cons (.int _ _) .nil) ?_
  show bo (some (.int .i64 (arityS op).1)) _
  rw [bo_some]
  show bo (some (.bool (arityS op).2)) _
  rw [bo_some]
  exact no_p6 hl hil K hx hlen hi ho him (arity_small op) _ 0 rfl (by decide) s L [] .nils h rfl (by simp)

theorem no_p4 (hl : ∀ k, rng (l.getD k 0)) (hil : i < l.length) (K : Kn R l x1 i) (hx : NOk x) (hlen : x.length ≤ 3 + i) (hi : i < 14) {op imm : Int} (ho : rng op) (him : rng imm) {s : S} {L : List Int} (h : NB s v x rid nid sid lo L op imm .nils []) :
    fk_Nodes.p4 R (eInts l) x1 v (.int .i64 (i : Int)) (.ptr rid 0 0 2) (.ptr nid 0 0 3) s := by
  refine fk_Nodes.p4_s fun hw => ?_
  refine get_int hil ?_
  refine kp (by decide) (by decide) ?_
  rw [bin_eql, bo_some, br_bool]
  split
  · refine get_int hil ?_
    refine qk (hl i) (by decide) ?_
    refine get_int hil ?_
    refine (fk_Word_pu (rng_tdiv (hl i) (by decide))).c (.cons (.int _ _) (.cons (.int _ _) .nil)) ?_
    show bo (some (.agg [.int .i64 1, .int .i64 _, .nils])) _
    rw [bo_some, store_ptr (k := 3) (x := .agg [.int .i64 1, .int .i64 (wordS ((l.getD i 0).tdiv 11) (l.getD i 0)), .nils]) h.nd rfl rfl rfl (Nat.le_refl _), bs_some]
    exact no_p5 hl hil K hx hlen hi (by unfold rng; omega) (wordS_rng (hl i)) (h.fresh (.put hw h.nd rfl) S.get_put_self)
  · exact no_p5 hl hil K hx hlen hi ho him h

theorem no_p3 (hl : ∀ k, rng (l.getD k 0)) (hil : i < l.length) (K : Kn R l x1 i) (hx : NOk x) (hlen : x.length ≤ 3 + i) (hi : i < 14) {op imm : Int} (ho : rng op) (him : rng imm) {s : S} {L : List Int} (h : NB s v x rid nid sid lo L op imm .nils []) (c : Bool) :
    fk_Nodes.p3 R (eInts l) x1 v (.int .i64 (i : Int)) (.ptr rid 0 0 2) (.ptr nid 0 0 3) (.bool c) s := by
  refine fk_Nodes.p3_s fun hw => ?_
  rw [br_bool]
  split
  · refine bslk (cs := (([23, 27, 28, 29, 24] : List Int)).map fun n => V.int .i64 n) hw rfl rfl fun s1 w1 n1 g1 k1 => ?_
    have h1 := h.new k1
    refine get_int hil ?_
    refine qk (hl i) (by decide) ?_
    refine kp (by decide) (by decide) ?_
    have hm := mod_rng (x := (l.getD i 0).tdiv 9) (m := 5) (by decide)
    obtain ⟨q, hq⟩ : ∃ q : Nat, (l.getD i 0).tdiv 9 % 5 = q := ⟨((l.getD i 0).tdiv 9 % 5).toNat, by omega⟩
    have hq5 : q < 5 := by omega
    rw [hq]
    have hL : Ls s1 1 (.sl s.n 0 0 5 1) ((([23, 27, 28, 29, 24] : List Int)).map fun n => V.int .i64 n) 5 := .of rfl g1 (Nat.le_refl _)
    refine get_one hL hq5 (c := .int .i64 (([23, 27, 28, 29, 24] : List Int).getD q 0)) ?_ ?_
    · simp only [List.getElem?_map, List.getD_eq_getElem?_getD]
      rw [List.getElem?_eq_getElem (by simpa using hq5)]; rfl
    · refine fst1 h1.wf h1.nd rfl rfl rfl (by decide) (by simp) fun s' hw' hg' hK _ => ?_
      have : ∀ q, q < 5 → rng (([23, 27, 28, 29, 24] : List Int).getD q 0) := by unfold rng; decide
      exact no_p4 hl hil K hx hlen hi (this q hq5) him (h1.node hK hg')
  · exact no_p4 hl hil K hx hlen hi ho him h
end

theorem no_p2 {l : List Int} {R : V → S → Prop} {b : Bool} (hl : ∀ k, rng (l.getD k 0)) {i : Nat} (hil : i < l.length) (K : Kn R l (.bool b) i) {x : List Node} {v : V} {s : S} (h : Out s v x i) (hi : i < 14) :
    fk_Nodes.p2 R (eInts l) (.bool b) v (.int .i64 (i : Int)) (.bool true) s := by
  refine fk_Nodes.p2_s fun hw => ?_
  rw [br_bool, if_pos rfl]
  refine get_int hil ?_
  refine qk (hl i) (by decide) ?_
  refine get_int hil ?_
  refine qk (hl i) (by decide) ?_
  refine get_int hil ?_
  refine qk (hl i) (by decide) ?_
  refine bslk (cs := [l.getD i 0 |>.tdiv 7, l.getD i 0 |>.tdiv 101, l.getD i 0 |>.tdiv 1009].map fun n => V.int .i64 n) hw rfl rfl fun s1 w1 n1 g1 k1 => ?_
  show bo (some (.agg [.sl s.n 0 0 3 1, .int .i64 0])) _
  rw [bo_some]
  refine boxk (cs := [.sl s.n 0 0 3 1, .int .i64 0]) w1 rfl rfl fun s2 w2 n2 g2 k2 => ?_
  refine get_int hil ?_
  refine kp (by decide) (by decide) ?_
  have hm := mod_rng (x := l.getD i 0) (m := 19) (by decide)
  rw [bin_add (by omega) (by omega), bo_some]
  show bo (some (.agg [.int .i64 _, .int .i64 0, .nils])) _
  rw [bo_some]
  refine boxk (cs := [.int .i64 0, .int .i64 0, .nils]) w2 rfl rfl fun s3 w3 n3 g3 k3 => ?_
  rw [show ([.int .i64 0, .int .i64 0, .nils] : List V).length = 3 from rfl, store_ptr (k := 3) (x := .agg [.int .i64 (4 + l.getD i 0 % 19), .int .i64 0, .nils]) g3 rfl rfl rfl (Nat.le_refl _), bs_some, un_not, bo_some, br_bool]
  have k4 : Keep s3 (s3.put s2.n (.row [.int .i64 (4 + l.getD i 0 % 19), .int .i64 0, .nils] 0 0)) (fun i => i = s2.n) := .put w3 g3 rfl
  have k03 : Keep s s3 fun _ => False := (k1.trans k2).trans k3
  have hlt : ∀ {i}, idOf v i → i < s.n := fun hi => Ln.id_lt h.out hw hi
  have hNB : NB (s3.put s2.n (.row [.int .i64 (4 + l.getD i 0 % 19), .int .i64 0, .nils] 0 0)) v x s1.n s2.n s.n (.int .i64 0) [l.getD i 0 |>.tdiv 7, l.getD i 0 |>.tdiv 101, l.getD i 0 |>.tdiv 1009] (4 + l.getD i 0 % 19) 0 .nils [] := by
    have g1' := k4.get _ _ ((k2.trans k3).get _ _ g1 id) (by omega)
    have g2' := k4.get _ _ (k3.get _ _ g2 id) (by omega)
    exact ⟨k4.wf, Ln.keep (Ln.keep h.out k03 fun _ _ h => h) k4 fun i hi => by have := hlt hi; omega,
      ⟨_, g2', .inr ⟨s.n, 0, 0, 0, 0, _, rfl, by simp, g1', Nat.le_refl _, rfl, fun h => h rfl⟩⟩, ⟨_, _, _, g1'⟩, S.get_put_self, .nil, by omega, fun hi => by have := hlt hi; omega, fun hi => by have := hlt hi; omega, id, id, fun _ h => h.elim, by omega, by omega, id,
      fun hi => by have := hlt hi; omega⟩
  have hr : rng (4 + l.getD i 0 % 19) := by unfold rng; omega
  have hr0 : rng 0 := by unfold rng; omega
  split
  · refine get_int hil ?_
    refine kp (by decide) (by decide) ?_
    rw [bin_gtr, bo_some]
    exact no_p3 hl hil K h.ok h.len hi hr hr0 hNB _
  · exact no_p3 hl hil K h.ok h.len hi hr hr0 hNB _

theorem no_p1 {l : List Int} {R : V → S → Prop} {b : Bool} (hl : ∀ k, rng (l.getD k 0)) (hR : ∀ v x s, Out s v x 14 → R v s) :
    ∀ m i, 14 - i = m → i ≤ 14 → i ≤ l.length → ∀ (v : V) (x : List Node) (s : S), Out s v x i → fk_Nodes.p1 R (eInts l) (.bool b) v (.int .i64 (i : Int)) s := by
  have hout : ∀ {s v x i}, Out s v x i → i ≤ 14 → Out s v x 14 := fun h hi => ⟨h.wf, h.out, h.ok, by have := h.len; omega⟩
  intro m
  induction m with
  | zero =>
    intro i hm hi hil v x s h
    obtain rfl : i = 14 := by omega
    have hend : fk_Nodes.p2 R (eInts l) (.bool b) v (.int .i64 ((14 : Nat) : Int)) (.bool false) s := by
      refine fk_Nodes.p2_s fun _ => ?_
      rw [br_bool, if_neg (by simp)]; exact hR v x s h
    refine fk_Nodes.p1_s fun hw => ?_
    simp only [vLen_eS, bo_some, bin_lss, br_bool]
    split
    · exact hend
    · exact hend
  | succ m ih =>
    intro i hm hi hil v x s h
    refine fk_Nodes.p1_s fun hw => ?_
    simp only [vLen_eS, bo_some, bin_lss, br_bool, decide_eq_true_eq, Int.ofNat_lt]
    split
    · rename_i h1
      rw [decide_eq_true (by omega : (i : Int) < 14)]
      refine no_p2 hl h1 (fun v' x' s' h' => ?_) h (by omega)
      refine fk_Nodes.p10_s fun _ => ?_
      rw [bin_inc (by omega), bo_some]
      exact ih (i + 1) (by omega) (by omega) (by omega) v' x' s' h'
    · refine fk_Nodes.p2_s fun _ => ?_
      rw [br_bool, if_neg (by simp)]; exact hR v x s (hout h hi)

theorem fk_Nodes_pu {l : List Int} {b : Bool} (hl : ∀ k, rng (l.getD k 0)) : ∃ x, (NOk x ∧ x.length ≤ 17) ∧ Pu Pg F.fk_Nodes [eInts l, .bool b] (eNodes x) := by
  refine Pu.ex fk_Nodes_k (e := eNodes) (fk_Nodes_c (fk_Nodes.p0_s fun hw => ?_))
  show bo (some (.agg [.int .i64 2, .int .i64 0, .nils])) _
  rw [bo_some]
  show bo (some (.agg [.int .i64 2, .int .i64 1, .nils])) _
  rw [bo_some]
  show bo (some (.agg [.int .i64 26, .int .i64 0, .nils])) _
  rw [bo_some]
  refine bslk (cs := [.int .i64 2, .int .i64 0, .nils, .int .i64 2, .int .i64 1, .nils, .int .i64 26, .int .i64 0, .nils]) hw rfl rfl fun s1 w1 n1 g1 k1 => ?_
  refine no_p1 hl (fun v x s h => ⟨x, ⟨h.ok, by have := h.len; omega⟩, Ln.nodes h.out⟩) _ 0 rfl (by decide) (Nat.zero_le _) _ base3 s1 ⟨w1, ⟨_, .of (n := base3.length) rfl g1 (Nat.le_refl _), ?_⟩, ⟨fun n hn => ?_, by simp [base3], by decide, rfl⟩, by decide⟩
  · exact .cons (.int _ _) (.cons (.int _ _) (.cons .nilsE (.cons (.int _ _) (.cons (.int _ _) (.cons .nilsE (.cons (.int _ _) (.cons (.int _ _) (.cons .nilsE .nil))))))))
  · simp only [base3, List.mem_cons, List.not_mem_nil, or_false] at hn
    rcases hn with rfl | rfl | rfl <;> exact ⟨by unfold rng; decide, by unfold rng; decide, by simp, by decide⟩
end Go.Am.YtmjaimpkjjkliaaGreat
namespace Go.Am.YtmjaimpkjjkliaaGreat
open Go.Proofs
set_option linter.unusedVariables false

theorem FzL.app {h : Heap} {a a' b b' : List V} (p : FzL h a a') (q : FzL h b b') : FzL h (a ++ b) (a' ++ b') := fun M w x I' hR hb hv => by
  have e : x = x.take a.length ++ x.drop a.length := (List.take_append_drop _ _).symm
  rw [e]
  exact (p M w _ I' hR hb (by have := hv.take a.length; simpa using this)).append (q M w _ I' hR hb (by have := hv.drop a.length; simpa using this))
theorem setAt_mid (A B C D : List V) (h : D.length = B.length) : setAt (A ++ (B ++ C)) A.length D = A ++ (D ++ C) := by
  induction A with
  | cons a A ih => simp only [List.cons_append, List.length_cons, setAt]; rw [ih]
  | nil =>
    have e : setAt (B ++ C) 0 D = D ++ (B ++ C).drop D.length := by cases (B ++ C) <;> rfl
    simp only [List.nil_append, List.length_nil]
    rw [e, h]; simp
theorem split_at (l : List Node) (k : Nat) (hk : k < l.length) : l.flatMap eN = (l.take k).flatMap eN ++ (eN (l.getD k default) ++ (l.drop (k + 1)).flatMap eN) := by
  conv => lhs; rw [← List.take_append_drop k l, drop_getD l k hk]
  rw [List.flatMap_append, List.flatMap_cons]
theorem set_flat (l : List Node) (k : Nat) (hk : k < l.length) (n : Node) : (l.set k n).flatMap eN = (l.take k).flatMap eN ++ (eN n ++ (l.drop (k + 1)).flatMap eN) := by
  rw [List.set_eq_take_append_cons_drop, if_pos hk, List.flatMap_append, List.flatMap_cons]
theorem take_len (l : List Node) (k : Nat) (hk : k < l.length) : ((l.take k).flatMap eN).length = k * 3 := by
  rw [flat_len eN_len, List.length_take, Nat.min_eq_left (by omega)]
theorem nodes_fz (h : Heap) (l : List Node) : FzL h (l.flatMap eN) (l.flatMap eN) := .lits fun v hv => by obtain ⟨a, _, ha⟩ := List.mem_flatMap.1 hv; exact eN_cv a v ha
theorem vEl_agg (x y z a b c : V) : vElems 3 [a, b, c] [(0, .agg [x, y, z])] = some [x, y, z] := rfl

theorem okNs (l : List Node) : okCells (l.flatMap eN) = true := by
  induction l with
  | nil => rfl
  | cons a l ih => rw [List.flatMap_cons, okCells_append, ok_eN, ih]; rfl
theorem okIs (l : List Int) : okCells (l.flatMap e1) = true := by
  induction l with
  | nil => rfl
  | cons a l ih => rw [List.flatMap_cons, okCells_append, ih]; rfl
theorem mu_p1 {l xt : List Node} {R : V → S → Prop} {v kw : V} {T : List V} {s : S} {nid : Nat} {op imm : Int} {ks : List Int} {k : Nat} (hk : k < l.length)
    (hL : Ls s 3 v (l.flatMap eN ++ T) (l.length + xt.length)) (hT : ∀ s', Keep s s' (idOf v) → FzL s'.h T (xt.flatMap eN)) (hn : s.h.get nid = some (.row [.int .i64 op, .int .i64 imm, kw] 0 0))
    (hkw : ∀ s', Keep s s' (idOf v) → Fz s'.h kw (eInts ks)) (hok : okCell kw = true) (hR : ∀ s', Fz s'.h v (eNodes (l.set k ⟨op, imm, ks⟩ ++ xt)) → R v s') : fk_Mutate.p1 R v (.int .i64 (k : Int)) (.ptr nid 0 0 3) s := by
  refine fk_Mutate.p1_s fun hw => ?_
  refine ldk hn (Nat.le_refl _) (Nat.le_refl _) ?_
  show bo (vIaddr 3 v (.int .i64 (k : Int))) fun y2 => bs (vStore s 3 y2 (.agg [.int .i64 op, .int .i64 imm, kw])) fun _ s3 => R v s3
  rcases hL.2 with ⟨rfl, h0⟩ | ⟨id, ep, wr, rfl, hg, hwr⟩
  · omega
  · have e2 : vIaddr 3 (.sl id ep 0 (l.length + xt.length) 3) (.int .i64 (k : Int)) = some (.ptr id ep (k * 3) (k * 3 + 3)) := by
      simp only [vIaddr, natOf_nat]
      rw [show (Nat.blt k (l.length + xt.length) && Nat.beq 3 3) = true by simp [Nat.blt]; omega]
      simp
    rw [e2, bo_some, store_ptr (k := 3) (x := .agg [.int .i64 op, .int .i64 imm, kw]) hg rfl rfl (by simp only [V.cells]; show (true && (true && (okCell kw && true))) = true; rw [hok]; rfl) (Nat.le_refl _), bs_some]
    have kK : Keep s (s.put id (.row (setAt (l.flatMap eN ++ T) (k * 3) (V.agg [.int .i64 op, .int .i64 imm, kw]).cells) ep ep)) (idOf (.sl id ep 0 (l.length + xt.length) 3)) := .put hw hg rfl
    have ecs : setAt (l.flatMap eN ++ T) (k * 3) (V.agg [.int .i64 op, .int .i64 imm, kw]).cells = (l.take k).flatMap eN ++ ([.int .i64 op, .int .i64 imm, kw] ++ ((l.drop (k + 1)).flatMap eN ++ T)) := by
      rw [split_at l k hk, ← take_len l k hk]
      simp only [List.append_assoc]
      exact setAt_mid _ _ _ _ rfl
    have hlen : ((l.take k).flatMap eN ++ ([.int .i64 op, .int .i64 imm, kw] ++ ((l.drop (k + 1)).flatMap eN ++ T))).length = (l.length + xt.length) * 3 := by
      have h1 := hL.1
      have h2 := take_len l k hk
      have h3 := flat_len eN_len (l.drop (k + 1))
      have h4 := flat_len eN_len l
      simp only [List.length_append, List.length_cons, List.length_nil, List.length_drop] at h1 h2 h3 h4 ⊢
      omega
    rw [ecs] at kK ⊢
    refine hR _ ?_
    have hLs : Ls (s.put id (.row ((l.take k).flatMap eN ++ ([.int .i64 op, .int .i64 imm, kw] ++ ((l.drop (k + 1)).flatMap eN ++ T))) ep ep)) 3 (.sl id ep 0 (l.length + xt.length) 3) _ (l.length + xt.length) := .of hlen S.get_put_self (Nat.le_refl _)
    have := hLs.fz (cs' := (l.set k ⟨op, imm, ks⟩ ++ xt).flatMap eN) (by
      rw [List.flatMap_append, set_flat l k hk, List.append_assoc, List.append_assoc]
      exact FzL.app (nodes_fz _ _) (FzL.app (.cons (Cv.int _ _).fz (.cons (Cv.int _ _).fz (.cons (hkw _ kK) .nil))) (FzL.app (nodes_fz _ _) (hT _ kK))))
    unfold eNodes eS
    rw [List.length_append, List.length_set]
    exact this

/-- What lies about when Mutate changes its copy. -/
structure MB (s : S) (v : V) (l : List Node) (nid : Nat) (op imm : Int) (kv : V) (ks : List Int) : Prop where
  wf : WF s
  out : Ls s 3 v (l.flatMap eN) l.length
  nd : s.h.get nid = some (.row [.int .i64 op, .int .i64 imm, kv] 0 0)
  kid : Ls s 1 kv (ks.map fun n => V.int .i64 n) ks.length
  d3 : ¬ idOf v nid
  d5 : ¬ idOf kv nid
  d6 : ∀ i, idOf kv i → ¬ idOf v i
section
variable {l : List Node} {R : V → S → Prop} {v kv : V} {s s' : S} {nid : Nat} {op imm op' imm' : Int} {ks : List Int} {k : Nat}
theorem MB.node (h : MB s v l nid op imm kv ks) (kp : Keep s s' fun i => i = nid) (hn : s'.h.get nid = some (.row [.int .i64 op', .int .i64 imm', kv] 0 0)) : MB s' v l nid op' imm' kv ks :=
  ⟨kp.wf, h.out.keep kp fun i hi e => h.d3 (e ▸ hi), hn, h.kid.keep kp fun i hi e => h.d5 (e ▸ hi), h.d3, h.d5, h.d6⟩
theorem kv_ok {s : S} {kv : V} {cs : List V} {n : Nat} (h : Ls s 1 kv cs n) : kv.ok = true ∧ kv.cells = [kv] ∧ okCell kv = true := by
  rcases h.2 with ⟨rfl, _⟩ | ⟨_, _, _, rfl, _⟩ <;> exact ⟨rfl, rfl, rfl⟩
theorem MB.go (h : MB s v l nid op imm kv ks) (hk : k < l.length) (hR : ∀ s', Fz s'.h v (eNodes (l.set k ⟨op, imm, ks⟩)) → R v s') : fk_Mutate.p1 R v (.int .i64 (k : Int)) (.ptr nid 0 0 3) s :=
  mu_p1 (xt := []) (T := []) hk (by simpa using h.out) (fun _ _ => .nil) h.nd (fun s' hs' => Ls.ints (h.kid.keep hs' h.d6)) (kv_ok h.kid).2.2 (by simpa using hR)

theorem nok {op imm : Int} {ks : List Int} (h1 : rng op) (h2 : rng imm) (h3 : ∀ t ∈ ks, rng t) (h4 : ks.length < 1073741824) : (⟨op, imm, ks⟩ : Node).Ok := ⟨h1, h2, h3, h4⟩
/-- An operand more. -/
theorem MB.app {s1 s2 : S} {kv' : V} {t : Int} (h : MB s v l nid op imm kv ks) (kp : Keep s s1 (idOf kv)) (hk : Ls s1 1 kv' ((ks ++ [t]).map fun n => V.int .i64 n) (ks.length + 1)) (hid : ∀ i, idOf kv' i → idOf kv i ∨ s.n ≤ i)
    (k2 : Keep s1 s2 fun i => i = nid) (hn : s2.h.get nid = some (.row [.int .i64 op, .int .i64 imm, kv'] 0 0)) : MB s2 v l nid op imm kv' (ks ++ [t]) := by
  have g5 : ¬ idOf kv' nid := fun hc => by
    rcases hid _ hc with h' | h'
    · exact h.d5 h'
    · have := h.wf.lt h.nd; omega
  refine ⟨k2.wf, (h.out.keep kp fun i hi hc => h.d6 i hc hi).keep k2 fun i hi e => h.d3 (e ▸ hi), hn, by rw [List.length_append]; exact hk.keep k2 fun i hi e => g5 (e ▸ hi), h.d3, g5, fun i hi hc => ?_⟩
  rcases hid _ hi with h' | h'
  · exact h.d6 i h' hc
  · rcases h.out.2 with ⟨rfl, _⟩ | ⟨id, ep, wr, rfl, hg, _⟩
    · cases hc
    · cases hc
      have := h.wf.lt hg; omega

abbrev muR (l : List Node) : V → S → Prop := fun v1 s1 => ∃ x, (0 < x.length ∧ x.length ≤ l.length + 1 ∧ ∀ n ∈ x, n.Ok) ∧ Fz s1.h v1 (eNodes x)
theorem mu_fin (h0 : 0 < l.length) (hok : ∀ n ∈ l, n.Ok) {n : Node} (hn : n.Ok) {s' : S} (h : Fz s'.h v (eNodes (l.set k n))) : muR l v s' := by
  refine ⟨_, ⟨by simpa using h0, by simp, fun m hm => ?_⟩, h⟩
  rcases List.mem_or_eq_of_mem_set hm with h' | h'
  · exact hok m h'
  · rw [h']; exact hn
theorem MB.fin (h0 : 0 < l.length) (hok : ∀ n ∈ l, n.Ok) (h : MB s v l nid op imm kv ks) (hk : k < l.length) (hN : (⟨op, imm, ks⟩ : Node).Ok) : fk_Mutate.p1 (muR l) v (.int .i64 (k : Int)) (.ptr nid 0 0 3) s :=
  h.go hk fun _ hf => mu_fin h0 hok hN hf
theorem kids_ld (h : MB s v l nid op imm kv ks) : loadAt s.h none (.ptr nid 0 (0 + 2) 3) = some kv := load_ptr h.nd (Nat.le_refl _) (by decide) rfl

theorem mu_sw {how at_ : Int} (h0 : 0 < l.length) (hb : l.length < 1000) (hok : ∀ n ∈ l, n.Ok) (hk : k < l.length) (h : MB s v l nid op imm kv ks) (hN : (⟨op, imm, ks⟩ : Node).Ok) (hNk : ks.length < 1000) (hh : rng how) (ha : rng at_) :
    C Pg F.fk_Pick [(.int .i64 how), (.int .i64 10)] s fun y23 s24 => bo (Am.bin .eql y23 (.int .i64 0)) fun y25 => br y25 (bo (Am.bin .quo (.int .i64 how) (.int .i64 10)) fun y26 => C Pg F.fk_Pick [y26, (.int .i64 36)] s24 fun y27 s28 => bo (Am.bin .sub y27 (.int .i64 1)) fun y29 => bo (vFaddr 0 (.ptr nid 0 0 3)) fun y30 => bs (vStore s28 1 y30 y29) fun _ s31 => fk_Mutate.p1 (muR l) v (.int .i64 (k : Int)) (.ptr nid 0 0 3) s31) (bo (Am.bin .eql y23 (.int .i64 1)) fun y32 => br y32 (bo (Am.bin .quo (.int .i64 how) (.int .i64 10)) fun y33 => C Pg F.fk_Pick [y33, (.int .i64 300)] s24 fun y34 s35 => bo (Am.bin .sub y34 (.int .i64 3)) fun y36 => bo (vFaddr 1 (.ptr nid 0 0 3)) fun y37 => bs (vStore s35 1 y37 y36) fun _ s38 => fk_Mutate.p1 (muR l) v (.int .i64 (k : Int)) (.ptr nid 0 0 3) s38) (bo (Am.bin .eql y23 (.int .i64 2)) fun y39 => br y39 (bo (Am.bin .quo (.int .i64 how) (.int .i64 10)) fun y40 => bo (vLen v) fun y41 => bo (Am.bin .add y41 (.int .i64 2)) fun y42 => C Pg F.fk_Pick [y40, y42] s24 fun y43 s44 => bo (vFaddr 2 (.ptr nid 0 0 3)) fun y45 => bo (loadAt s44.h none y45) fun y46 => rd (rowOf y45) (fun h => loadAt h none y45) y46 [(s24, s44)] ∧ bo (Am.bin .sub y43 (.int .i64 1)) fun y47 => bn s44 (nBslice [(.int .i64 0)] 1 1 [(0, y47)]) fun y48 s49 => bs (vAppend s49 1 8 y46 y48) fun y50 s51 => bo (vFaddr 2 (.ptr nid 0 0 3)) fun y52 => bs (vStore s51 1 y52 y50) fun _ s53 => fk_Mutate.p1 (muR l) v (.int .i64 (k : Int)) (.ptr nid 0 0 3) s53) (bo (Am.bin .eql y23 (.int .i64 3)) fun y54 => br y54 (bo (vFaddr 2 (.ptr nid 0 0 3)) fun y55 => bo (loadAt s24.h none y55) fun y56 => bo (vLen y56) fun y57 => bo (Am.bin .gtr y57 (.int .i64 0)) fun y58 => br y58 (bo (Am.bin .quo (.int .i64 how) (.int .i64 10)) fun y59 => bo (vFaddr 2 (.ptr nid 0 0 3)) fun y60 => bo (loadAt s24.h none y60) fun y61 => bo (vLen y61) fun y62 => C Pg F.fk_Pick [y59, y62] s24 fun y63 s64 => bo (Am.bin .quo (.int .i64 at_) (.int .i64 3)) fun y65 => bo (vLen v) fun y66 => bo (Am.bin .add y66 (.int .i64 2)) fun y67 => C Pg F.fk_Pick [y65, y67] s64 fun y68 s69 => bo (vFaddr 2 (.ptr nid 0 0 3)) fun y70 => bo (loadAt s69.h none y70) fun y71 => rd (rowOf y70) (fun h => loadAt h none y70) y71 [(s24, s64), (s64, s69)] ∧ bo (Am.bin .sub y68 (.int .i64 1)) fun y72 => bo (vIaddr 1 y71 y63) fun y73 => bs (vStore s69 1 y73 y72) fun _ s74 => fk_Mutate.p1 (muR l) v (.int .i64 (k : Int)) (.ptr nid 0 0 3) s74) (fk_Mutate.p1 (muR l) v (.int .i64 (k : Int)) (.ptr nid 0 0 3) s24)) (bo (Am.bin .eql y23 (.int .i64 4)) fun y75 => br y75 (bo (vFaddr 2 (.ptr nid 0 0 3)) fun y76 => bo (loadAt s24.h none y76) fun y77 => bo (vLen y77) fun y78 => bo (Am.bin .gtr y78 (.int .i64 0)) fun y79 => br y79 (bo (vFaddr 2 (.ptr nid 0 0 3)) fun y80 => bo (loadAt s24.h none y80) fun y81 => bo (vSlice 1 y81 (some (.int .i64 1)) none) fun y82 => bo (vFaddr 2 (.ptr nid 0 0 3)) fun y83 => bs (vStore s24 1 y83 y82) fun _ s84 => fk_Mutate.p1 (muR l) v (.int .i64 (k : Int)) (.ptr nid 0 0 3) s84) (fk_Mutate.p1 (muR l) v (.int .i64 (k : Int)) (.ptr nid 0 0 3) s24)) (bo (Am.bin .eql y23 (.int .i64 5)) fun y85 => br y85 (bo (loadAt s24.h (some 3) (.ptr nid 0 0 3)) fun y86 => bn s24 (nBslice [(.int .i64 0), (.int .i64 0), .nils] 1 3 [(0, y86)]) fun y87 s88 => bs (vAppend s88 3 40 v y87) fun y89 s90 => fk_Mutate.p1 (muR l) y89 (.int .i64 (k : Int)) (.ptr nid 0 0 3) s90) (bo (Am.bin .eql y23 (.int .i64 6)) fun y91 => br y91 (bo (vFaddr 0 (.ptr nid 0 0 3)) fun y92 => bs (vStore s24 1 y92 (.int .i64 3)) fun _ s93 => bo (Am.bin .quo (.int .i64 how) (.int .i64 10)) fun y94 => C Pg F.fk_Pick [y94, (.int .i64 40)] s93 fun y95 s96 => bo (vFaddr 1 (.ptr nid 0 0 3)) fun y97 => bs (vStore s96 1 y97 y95) fun _ s98 => bo (vFaddr 2 (.ptr nid 0 0 3)) fun y99 => bs (vStore s98 1 y99 .nils) fun _ s100 => fk_Mutate.p1 (muR l) v (.int .i64 (k : Int)) (.ptr nid 0 0 3) s100) (fk_Mutate.p1 (muR l) v (.int .i64 (k : Int)) (.ptr nid 0 0 3) s24))))))) := by
  have hw := h.wf
  refine kp (by decide) (by decide) ?_
  rw [bin_eql, bo_some, br_bool]
  split
  · refine qk hh (by decide) ?_
    refine kp (by decide) (by decide) ?_
    have hm := mod_rng (x := how.tdiv 10) (m := 36) (by decide)
    rw [bin_sub (by omega) (by omega), bo_some]
    refine fst1 hw h.nd rfl rfl rfl (by decide) (by simp) fun s' hw' hg' hK _ => ?_
    exact (h.node hK hg').fin h0 hok hk ⟨by unfold rng; show _ ≤ how.tdiv 10 % 36 - 1 ∧ how.tdiv 10 % 36 - 1 < _; omega, hN.imm, hN.kids, hN.len⟩
  rw [bin_eql, bo_some, br_bool]
  split
  · refine qk hh (by decide) ?_
    refine kp (by decide) (by decide) ?_
    have hm := mod_rng (x := how.tdiv 10) (m := 300) (by decide)
    rw [bin_sub (by omega) (by omega), bo_some]
    refine fst1 hw h.nd rfl rfl rfl (by decide) (by simp) fun s' hw' hg' hK _ => ?_
    exact (h.node hK hg').fin h0 hok hk ⟨hN.op, by unfold rng; show _ ≤ how.tdiv 10 % 300 - 3 ∧ how.tdiv 10 % 300 - 3 < _; omega, hN.kids, hN.len⟩
  rw [bin_eql, bo_some, br_bool]
  split
  · refine qk hh (by decide) ?_
    rw [h.out.len, bo_some, bin_add (by omega) (by omega), bo_some]
    refine kp (by omega) (by omega) ?_
    have hm := mod_rng (x := how.tdiv 10) (m := (l.length : Int) + 2) (by omega)
    rw [vFaddr_ptr, bo_some, kids_ld h, bo_some]
    refine ⟨rd_of fun p hp => ?_, ?_⟩
    · simp only [List.mem_cons, List.not_mem_nil, or_false] at hp
      rw [hp]; exact ⟨kids_ld h, kids_ld h⟩
    rw [bin_sub (by omega) (by omega), bo_some]
    refine app_one (new := [.int .i64 _]) h.kid hw rfl rfl rfl (by decide) (by omega) fun kv' s2 hw2 hk2 hK2 hid => ?_
    refine fst1 (off := 0) (lim := 3) (k := 2) hw2 (hK2.get _ _ h.nd h.d5) (kv_ok hk2).1 (kv_ok hk2).2.1 (kv_ok hk2).2.2 (by decide) (by simp) fun s3 hw3 hg3 hK3 _ => ?_
    refine (h.app hK2 (by rw [map_int_append]; exact hk2) hid hK3 hg3).fin h0 hok hk ⟨hN.op, hN.imm, fun t ht => ?_, ?_⟩
    · rcases List.mem_append.1 ht with h' | h'
      · exact hN.kids t h'
      · simp at h'; subst h'; unfold rng; omega
    · show (ks ++ [_]).length < _; simp; omega
  rw [bin_eql, bo_some, br_bool]
  split
  · rw [vFaddr_ptr, bo_some, kids_ld h, bo_some, h.kid.len, bo_some, bin_gtr, bo_some, br_bool]
    split
    · rename_i hpos
      have hpos : (0 : Int) < ks.length := by simpa using hpos
      refine qk hh (by decide) ?_
      rw [bo_some, kids_ld h, bo_some, h.kid.len, bo_some]
      refine kp (by omega) (by omega) ?_
      refine qk ha (by decide) ?_
      rw [h.out.len, bo_some, bin_add (by omega) (by omega), bo_some]
      refine kp (by omega) (by omega) ?_
      have hm := mod_rng (x := at_.tdiv 3) (m := (l.length : Int) + 2) (by omega)
      have hm2 := mod_rng (x := how.tdiv 10) (m := (ks.length : Int)) (by omega)
      rw [bo_some, kids_ld h, bo_some]
      refine ⟨rd_of fun p hp => ?_, ?_⟩
      · simp only [List.mem_cons, List.not_mem_nil, or_false] at hp
        rcases hp with rfl | rfl <;> exact ⟨kids_ld h, kids_ld h⟩
      rw [bin_sub (by omega) (by omega), bo_some]
      obtain ⟨q, hq⟩ : ∃ q : Nat, how.tdiv 10 % (ks.length : Int) = q := ⟨(how.tdiv 10 % (ks.length : Int)).toNat, by omega⟩
      rw [hq]
      refine put_one h.kid hw (by omega) rfl rfl rfl fun s' hw' hL' hK' => ?_
      have hMB : MB s' v l nid op imm kv (ks.set q (at_.tdiv 3 % ((l.length : Int) + 2) - 1)) :=
        ⟨hw', h.out.keep hK' fun i hi hc => h.d6 i hc hi, hK'.get _ _ h.nd h.d5, by rw [List.map_set, List.length_set]; exact hL', h.d3, h.d5, h.d6⟩
      refine hMB.fin h0 hok hk ⟨hN.op, hN.imm, fun t ht => ?_, by show (ks.set _ _).length < _; simp; omega⟩
      rcases List.mem_or_eq_of_mem_set ht with h' | h'
      · exact hN.kids t h'
      · rw [h']; unfold rng; omega
    · exact h.fin h0 hok hk hN
  rw [bin_eql, bo_some, br_bool]
  split
  · rw [vFaddr_ptr, bo_some, kids_ld h, bo_some, h.kid.len, bo_some, bin_gtr, bo_some, br_bool]
    split
    · rename_i hpos
      have hpos : (0 : Int) < ks.length := by simpa using hpos
      rw [bo_some, kids_ld h, bo_some]
      obtain ⟨a, t, rfl⟩ : ∃ a t, ks = a :: t := by cases ks with | nil => simp at hpos | cons a t => exact ⟨a, t, rfl⟩
      obtain ⟨kw, hsl, w1, w2, w3, hkw⟩ : ∃ kw, vSlice 1 kv (some (.int .i64 1)) none = some kw ∧ kw.ok = true ∧ kw.cells = [kw] ∧ okCell kw = true ∧ ∀ s', Ls s' 1 kv ((a :: t).map fun n => V.int .i64 n) (a :: t).length → Fz s'.h kw (eInts t) := by
        rcases h.kid.2 with ⟨rfl, hn⟩ | ⟨id, ep, wr, rfl, hg, hwr⟩
        · simp at hn
        · simp only [vSlice, vBounds, natOf_one, List.length_cons]
          rw [show (Nat.ble 1 (t.length + 1) && Nat.ble (t.length + 1) (t.length + 1)) = true by simp]
          simp only [cond_true]
          cases t with
          | nil => exact ⟨.emp, rfl, rfl, rfl, rfl, fun _ _ => Cv.fz .emp⟩
          | cons b t =>
            refine ⟨.sl id ep (0 + 1 * 1) (b :: t).length 1, rfl, rfl, rfl, rfl, fun s' hs' => ?_⟩
            rcases hs'.2 with ⟨hc, _⟩ | ⟨id', ep', wr', hc, hg', hwr'⟩
            · cases hc
            · cases hc
              refine Fz.sl (cs' := (b :: t).flatMap e1) hg' hwr' ?_
              rw [flat_e1]
              have : (((a :: b :: t).map fun n => V.int .i64 n).drop (0 + 1 * 1)).take ((b :: t).length * 1) = (b :: t).map fun n => V.int .i64 n := by
                rw [Nat.mul_one]; exact List.take_of_length_le (by simp)
              rw [this]
              exact .lits fun v hv => by obtain ⟨a, _, rfl⟩ := List.mem_map.1 hv; exact .int _ _
      rw [hsl, bo_some]
      refine fst1 (x := kw) hw h.nd w1 w2 w3 (by decide) (by simp) fun s1 hw1 hg1 hK1 _ => ?_
      refine mu_p1 (xt := []) (T := []) (ks := t) hk (by simpa using h.out.keep hK1 fun i hi e => h.d3 (e ▸ hi)) (fun _ _ => .nil) hg1 (fun s' hs' => hkw s' ((h.kid.keep hK1 fun i hi e => h.d5 (e ▸ hi)).keep hs' h.d6)) w3 fun s' hf => ?_
      rw [List.append_nil] at hf
      exact mu_fin h0 hok (nok hN.op hN.imm (fun x hx => hN.kids x (List.mem_cons_of_mem _ hx)) (by simp at hNk; omega)) hf
    · exact h.fin h0 hok hk hN
  rw [bin_eql, bo_some, br_bool]
  split
  · refine ldk h.nd (Nat.le_refl _) (Nat.le_refl _) ?_
    refine app_one (new := [.int .i64 op, .int .i64 imm, kv]) h.out hw (vEl_agg _ _ _ _ _ _) rfl (by show (true && (true && (okCell kv && true))) = true; rw [(kv_ok h.kid).2.2]; rfl) (by decide) (by omega) fun v' s' hw' hL' hK' hid => ?_
    have d6 : ∀ i, idOf kv i → ¬ idOf v' i := fun i hi hc => by
      rcases hid _ hc with h' | h'
      · exact h.d6 i hi h'
      · rcases h.kid.2 with ⟨rfl, _⟩ | ⟨id, ep, wr, rfl, hg, _⟩
        · cases hi
        · cases hi
          have := h.wf.lt hg; omega
    have hkv : ∀ s'', Keep s' s'' (idOf v') → Fz s''.h kv (eInts ks) := fun s'' hs'' => Ls.ints ((h.kid.keep hK' h.d6).keep hs'' d6)
    refine mu_p1 (xt := [⟨op, imm, ks⟩]) hk hL' (fun s'' hs'' => ?_) (hK'.get _ _ h.nd h.d3) hkv (kv_ok h.kid).2.2 fun s'' hf => ⟨_, ⟨by simp, by simp, fun m hm => ?_⟩, hf⟩
    · exact .cons (Cv.int _ _).fz (.cons (Cv.int _ _).fz (.cons (hkv _ hs'') .nil))
    · rcases List.mem_append.1 hm with h' | h'
      · rcases List.mem_or_eq_of_mem_set h' with h' | h'
        · exact hok m h'
        · rw [h']; exact hN
      · simp at h'; rw [h']; exact hN
  rw [bin_eql, bo_some, br_bool]
  split
  · refine fst1 hw h.nd rfl rfl rfl (by decide) (by simp) fun s1 hw1 hg1 hK1 _ => ?_
    have h1 := h.node (op' := 3) (imm' := imm) hK1 hg1
    refine qk hh (by decide) ?_
    refine kp (by decide) (by decide) ?_
    have hm := mod_rng (x := how.tdiv 10) (m := 40) (by decide)
    refine fst1 hw1 h1.nd rfl rfl rfl (by decide) (by simp) fun s2 hw2 hg2 hK2 _ => ?_
    have h2 := h1.node (op' := 3) (imm' := how.tdiv 10 % 40) hK2 hg2
    refine fst1 (x := .nils) hw2 h2.nd rfl rfl rfl (by decide) (by simp) fun s3 hw3 hg3 hK3 _ => ?_
    have h3 : MB s3 v l nid 3 (how.tdiv 10 % 40) .nils [] := ⟨hw3, h2.out.keep hK3 fun i hi e => h.d3 (e ▸ hi), hg3, .nil, h.d3, fun h => h, fun _ h => h.elim⟩
    exact h3.fin h0 hok hk (nok (by unfold rng; omega) (by unfold rng; omega) (by simp) (by simp))
  · exact h.fin h0 hok hk hN

theorem fk_Mutate_pu {l : List Node} {how at_ : Int} (h0 : 0 < l.length) (hb : l.length < 1000) (hok : ∀ n ∈ l, n.Ok) (hs : ∀ n ∈ l, n.kids.length < 1000) (hh : rng how) (ha : rng at_) :
    ∃ x, (0 < x.length ∧ x.length ≤ l.length + 1 ∧ ∀ n ∈ x, n.Ok) ∧ Pu Pg F.fk_Mutate [eNodes l, .int .i64 how, .int .i64 at_] (eNodes x) := by
  refine Pu.ex fk_Mutate_k (e := eNodes) (fk_Mutate_c (fk_Mutate.p0_s fun hw => ?_))
  refine bslk (cs := []) hw rfl rfl fun s1 w1 n1 g1 k1 => ?_
  obtain ⟨v, s2, e, hL, k2, hid⟩ := (Ls.of (n := 0) (sz := 3) rfl g1 (Nat.le_refl _)).append (by_ := 40) w1 (x := eNodes l) (m := l.length) lenV_eL (src_eS eN_len) (flat_len eN_len l) (okNs l) (by decide) (by omega)
  rw [List.nil_append, Nat.zero_add] at hL
  rw [e, bs_some, hL.len, bo_some, bin_eql, bo_some, br_bool, if_neg (by rw [decide_eq_true_eq]; omega), bo_some]
  refine kp (by omega) (by omega) ?_
  have hm := mod_rng (x := at_) (m := (l.length : Int)) (by omega)
  obtain ⟨k, hk⟩ : ∃ k : Nat, at_ % (l.length : Int) = k := ⟨(at_ % (l.length : Int)).toNat, by omega⟩
  rw [hk]
  have hkl : k < l.length := by omega
  obtain ⟨ii, ep, wr, e, hg, hwr, hidv⟩ := hL.iaddr hkl
  rw [e, bo_some, load_ptrk hg hwr (Nat.le_refl _), flat_drop eN_len l k hkl, bo_some]
  show bn s2 (nBox (.agg [.int .i64 0, .int .i64 0, .nils])) _
  refine boxk (cs := [.int .i64 0, .int .i64 0, .nils]) k2.wf rfl rfl fun s3 w3 n3 g3 k3 => ?_
  have hmem : l.getD k default ∈ l := by
    have : l.getD k default = l[k] := by simp [List.getD, hkl]
    rw [this]; exact List.getElem_mem _
  have hN := hok _ hmem
  have hNk := hs _ hmem
  generalize l.getD k default = n at hN hNk
  obtain ⟨op, imm, ks⟩ := n
  simp only at hNk
  have hcut : (eN ⟨op, imm, ks⟩ ++ (l.drop (k + 1)).flatMap eN).take 3 = [.int .i64 op, .int .i64 imm, eInts ks] := by simp [eN]
  rw [hcut, show ([.int .i64 0, .int .i64 0, .nils] : List V).length = 3 from rfl, store_ptr (k := 3) (x := .agg [.int .i64 op, .int .i64 imm, eInts ks]) g3 rfl rfl (ok_eN (n := ⟨op, imm, ks⟩)) (Nat.le_refl _), bs_some]
  have k4 : Keep s3 (s3.put s2.n (.row [.int .i64 op, .int .i64 imm, eInts ks] 0 0)) (fun i => i = s2.n) := .put w3 g3 rfl
  show bn (s3.put s2.n (.row [.int .i64 op, .int .i64 imm, eInts ks] 0 0)) _ _
  generalize hs4 : s3.put s2.n (.row [.int .i64 op, .int .i64 imm, eInts ks] 0 0) = s4 at k4 ⊢
  have n4 : s4.n = s3.n := by rw [← hs4]
  have g4 : s4.h.get s2.n = some (.row [.int .i64 op, .int .i64 imm, eInts ks] 0 0) := by rw [← hs4]; exact S.get_put_self
  have hLv : ∀ {i}, idOf v i → i < s2.n := fun hi => by
    rcases hL.2 with ⟨rfl, _⟩ | ⟨id, ep, wr, rfl, hg, _⟩
    · cases hi
    · cases hi; exact k2.wf.lt hg
  have hL4 : Ls s4 3 v (l.flatMap eN) l.length := (hL.keep k3 fun _ _ h => h).keep k4 fun i hi => by have := hLv hi; omega
  refine bslk (cs := []) k4.wf rfl rfl fun s5 w5 n5 g5 k5 => ?_
  refine fld (k5.get _ _ g4 id) (Nat.le_refl _) (by decide) rfl ?_
  obtain ⟨kv, s6, e6, hK6, k6, hid6⟩ := (Ls.of (n := 0) (sz := 1) rfl g5 (Nat.le_refl _)).append (by_ := 8) w5 (x := eInts ks) (m := ks.length) lenV_eL (src_eS e1_len) (flat_len e1_len ks) (okIs ks) (by decide) (by omega)
  rw [List.nil_append, Nat.zero_add, flat_e1] at hK6
  rw [e6, bs_some]
  have g6 : s6.h.get s2.n = some (.row [.int .i64 op, .int .i64 imm, eInts ks] 0 0) := k6.get _ _ (k5.get _ _ g4 id) (fun e => by have : s2.n = s4.n := e; omega)
  have hkv : ∀ {i}, idOf kv i → s4.n ≤ i := fun hi => by
    rcases hid6 _ hi with h | h
    · have : _ = s4.n := h; omega
    · omega
  have hL6 : Ls s6 3 v (l.flatMap eN) l.length := (hL4.keep k5 fun _ _ h => h).keep k6 fun i hi e => by have := hLv hi; have : i = s4.n := e; omega
  refine fst1 (off := 0) (lim := 3) (k := 2) k6.wf g6 (kv_ok hK6).1 (kv_ok hK6).2.1 (kv_ok hK6).2.2 (by decide) (by simp) fun s7 w7 g7 k7 n7 => ?_
  have hMB : MB s7 v l s2.n op imm kv ks := ⟨w7, hL6.keep k7 fun i hi => by have := hLv hi; omega, g7, hK6.keep k7 fun i hi => by have := hkv hi; omega, fun hi => by have := hLv hi; omega, fun hi => by have := hkv hi; omega,
    fun i h1 h2 => by have := hkv h1; have := hLv h2; omega⟩
  generalize s2.n = nid at hMB
  have hsw := mu_sw h0 hb hok hkl hMB hN hNk hh ha
  rw [hL.len] at hsw
  exact hsw
end
end Go.Am.YtmjaimpkjjkliaaGreat
namespace Go.Am.YtmjaimpkjjkliaaGreat
open Go.Proofs
set_option linter.unusedVariables false

theorem mk_mono (ks : List Int) (b : List Bool) (j : Nat) (h : b.getD j false = true) : (markKids b ks).getD j false = true := by
  induction ks generalizing b with
  | nil => exact h
  | cons k ks ih =>
    refine ih _ ?_
    have hj : j < b.length := by
      rcases Nat.lt_or_ge j b.length with hc | hc
      · exact hc
      · rw [List.getD_eq_getElem?_getD, List.getElem?_eq_none hc] at h; simp at h
    by_cases e : k.toNat = j
    · subst e; simp [List.getD, hj]
    · simpa [List.getD, List.getElem?_set, e] using h
theorem mk_mem (ks : List Int) (b : List Bool) (k : Int) (h : k ∈ ks) (hk : k.toNat < b.length) : (markKids b ks).getD k.toNat false = true := by
  induction ks generalizing b with
  | nil => simp at h
  | cons a ks ih =>
    rcases List.mem_cons.1 h with rfl | h'
    · exact mk_mono ks _ _ (by simp [List.getD, hk])
    · exact ih _ h' (by simpa using hk)
theorem marks_all (l : List Node) (N : Nat) : ∀ n b, n ≤ N → MOk l N b →
    MOk l N (marks l n b) ∧ (∀ j, b.getD j false = true → (marks l n b).getD j false = true) ∧ (∀ j, n ≤ j → (marks l n b).getD j false = true → b.getD j false = true) ∧
      ∀ j, j < n → (marks l n b).getD j false = true → ∀ k ∈ (l.getD j default).kids, (marks l n b).getD k.toNat false = true := by
  intro n
  induction n with
  | zero => intro b _ hm; exact ⟨hm, fun _ h => h, fun _ _ h => h, fun _ h => by omega⟩
  | succ n ih =>
    intro b hn hm
    cases hbn : b.getD n false with
    | false =>
      have e : marks l (n + 1) b = marks l n b := by simp only [marks, hbn]; rfl
      obtain ⟨a1, a2, a3, a4⟩ := ih b (by omega) hm
      rw [e]
      refine ⟨a1, a2, fun j hj h => a3 j (by omega) h, fun j hj h => ?_⟩
      rcases Nat.lt_or_ge j n with h' | h'
      · exact a4 j h' h
      · obtain rfl : j = n := by omega
        rw [a3 j (Nat.le_refl _) h] at hbn; simp at hbn
    | true =>
      have e : marks l (n + 1) b = marks l n (markKids b (l.getD n default).kids) := by simp only [marks, hbn]; rfl
      have hk := sortN_kids (hm.2 n hbn)
      obtain ⟨a1, a2, a3, a4⟩ := ih _ (by omega) (hm.kids hbn)
      rw [e]
      have hback : ∀ j, n ≤ j → (markKids b (l.getD n default).kids).getD j false = true → b.getD j false = true := fun j hj h => by
        rcases markKids_get _ _ _ h with h | ⟨k, hk', e⟩
        · exact h
        · have := hk k hk'; omega
      refine ⟨a1, fun j h => a2 j (mk_mono _ _ _ h), fun j hj h => hback j (by omega) (a3 j (by omega) h), fun j hj h => ?_⟩
      rcases Nat.lt_or_ge j n with h' | h'
      · exact a4 j h' h
      · obtain rfl : j = n := by omega
        intro k hkm
        have := hk k hkm
        exact a2 _ (mk_mem _ _ _ hkm (by rw [hm.1]; omega))

theorem listed_mem {b : List Bool} {n : Nat} {x : Int} : x ∈ listed b n ↔ ∃ j : Nat, x = j ∧ j < n ∧ b.getD j false = true := by
  unfold listed
  rw [List.mem_map]
  constructor
  · rintro ⟨j, hj, rfl⟩
    rw [List.mem_filter] at hj
    exact ⟨j, rfl, by simpa using hj.1, hj.2⟩
  · rintro ⟨j, rfl, h1, h2⟩
    exact ⟨j, List.mem_filter.2 ⟨by simpa using h1, h2⟩, rfl⟩
theorem listed_succ (b : List Bool) (n : Nat) : listed b (n + 1) = if b.getD n false then listed b n ++ [(n : Int)] else listed b n := by
  unfold listed
  rw [List.range_succ, List.filter_append, List.map_append, List.filter_cons, List.filter_nil]
  generalize b.getD n false = c
  cases c <;> simp
theorem listed_inc (b : List Bool) : ∀ (n i : Nat), 0 < i → i < (listed b n).length → (listed b n).getD (i - 1) 0 < (listed b n).getD i 0 := by
  intro n
  induction n with
  | zero => intro i _ h; simp [listed] at h
  | succ n ih =>
    intro i h0 hi
    rw [listed_succ] at hi ⊢
    split at hi
    · rename_i hb
      rw [if_pos hb]
      rcases Nat.lt_or_ge i (listed b n).length with h | h
      · have := ih i h0 h
        simp only [List.getD_eq_getElem?_getD] at this ⊢
        rw [List.getElem?_append_left h, List.getElem?_append_left (by omega)]; exact this
      · have hi' : i = (listed b n).length := by simp at hi; omega
        have hl : i - 1 < (listed b n).length := by omega
        have hmem : (listed b n)[i - 1] ∈ listed b n := List.getElem_mem _
        obtain ⟨j, hj, hjn, _⟩ := listed_mem.1 hmem
        simp only [List.getD_eq_getElem?_getD]
        rw [List.getElem?_append_left hl, List.getElem?_append_right h, List.getElem?_eq_getElem hl, hj, hi']
        simp; omega
    · rename_i hb
      rw [if_neg hb]; exact ih i h0 hi

/-- All that the law asks of the dependencies. -/
structure Dp (y : List Node) (i : Nat) (d : List Int) : Prop where
  nil : (d.length = 0) ↔ sortS y (i : Int) = 0
  last : 0 < d.length → d.getD (d.length - 1) 0 = i
  inc : ∀ j, 0 < j → j < d.length → d.getD (j - 1) 0 < d.getD j 0
  ok : ∀ x ∈ d, 0 ≤ x ∧ x < y.length ∧ sortS y x ≠ 0
  kids : ∀ x ∈ d, ∀ k ∈ (y.getD x.toNat default).kids, k ∈ d
  len : d.length ≤ i + 1
  le : ∀ x ∈ d, x ≤ i
theorem dp {y : List Node} {i : Nat} (hi : i < y.length) : Dp y i (depsS y (i : Int)) := by
  by_cases hs : sortS y (i : Int) = 0
  · have e : depsS y (i : Int) = [] := by unfold depsS; rw [if_pos hs]
    rw [e]
    exact ⟨⟨fun _ => hs, fun _ => rfl⟩, by simp, by simp, by simp, by simp, by simp, by simp⟩
  · have hd : depsS y (i : Int) = listed (marks y (i + 1) ((List.replicate (i + 1) false).set i true)) (i + 1) := by
      unfold depsS; rw [if_neg hs]; rfl
    have hsi : sortN y i ≠ 0 := by rw [← sortS_nat hi]; exact hs
    have hm : MOk y (i + 1) ((List.replicate (i + 1) false).set i true) := ⟨by simp, fun j hj => by
      by_cases hij : j = i
      · subst hij; exact hsi
      · rw [List.getD_eq_getElem?_getD, List.getElem?_set_ne (fun e => hij e.symm)] at hj
        simp [List.getElem?_replicate] at hj
        split at hj <;> simp at hj⟩
    obtain ⟨a1, a2, a3, a4⟩ := marks_all y (i + 1) (i + 1) _ (Nat.le_refl _) hm
    have hi2 := a2 i (by simp [List.getD])
    rw [hd]
    generalize marks y (i + 1) ((List.replicate (i + 1) false).set i true) = b at a1 a2 a3 a4 hi2
    have hl : listed b (i + 1) = listed b i ++ [(i : Int)] := by rw [listed_succ, if_pos hi2]
    refine ⟨?_, fun _ => ?_, listed_inc b (i + 1), fun x hx => ?_, fun x hx k hk => ?_, ?_, fun x hx => ?_⟩
    · rw [hl]; simp [hs]
    · rw [hl]; simp [List.getD_eq_getElem?_getD]
    · obtain ⟨j, rfl, h1, h2⟩ := listed_mem.1 hx
      refine ⟨by omega, by omega, ?_⟩
      rw [sortS_nat (by omega)]; exact a1.2 j h2
    · obtain ⟨j, rfl, h1, h2⟩ := listed_mem.1 hx
      have hk' := sortN_kids (a1.2 j h2) k hk
      exact listed_mem.2 ⟨k.toNat, by omega, by omega, a4 j h1 h2 k hk⟩
    · unfold listed
      rw [List.length_map]
      exact Nat.le_trans (List.length_filter_le _ _) (by simp)
    · obtain ⟨j, rfl, h1, _⟩ := listed_mem.1 hx
      omega
end Go.Am.YtmjaimpkjjkliaaGreat
