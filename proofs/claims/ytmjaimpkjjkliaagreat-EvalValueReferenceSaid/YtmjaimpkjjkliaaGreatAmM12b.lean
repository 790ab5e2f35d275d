/- A region that draws its order: the theorem. -/
import Derived.Test.YtmjaimpkjjkliaaGreatAmM12
namespace Go.Am
variable {P : Program} {M : Mp}

def exOf : Ex → Exit
  | .normal => .normal
  | .exit id => .exit id
  | .ret => .ret

/-- What a piece of code does, told by the abstract machine. -/
def Tells (wp : (Exit → Act → World → Prop) → Act → World → Prop) (nt : Nat) (tm : Tm) (s : S) (ex : Ex) (tm' : Tm) (s' : S) : Prop :=
  Grows s s' ∧ ∀ (M : Mp) (w : World) (a : Act), Rel M s.h.get w → Fresh M s.n s'.n → TmRel M tm a nt → ∀ (Q : Exit → Act → World → Prop),
    (∀ a' w' M', TmRel M' tm' a' nt → a'.defers = a.defers → Rel M' s'.h.get w' → Ext M M' s.h.get s'.h.get s.n s'.n w w' → Q (exOf ex) a' w') → wp Q a w

/-! ### Positions -/
structure Plan (P : Program) (nt : Nat) (ops : Array Oper) (n : Nat) (idx : Nat → Nat) (aop : Nat → Opr) (qsf : Nat → List Nat) (msk : Nat → Nat) : Prop where
  oper : ∀ p, p < n → ∃ o, ops[idx p]? = some o ∧ cOper P nt ops o = some (aop p) ∧ (∀ e ∈ o.after.toList, binds e = true → ∃ q, q < p ∧ idx q = e.on) ∧
    (∀ j, (msk p).testBit j = true → ∃ e ∈ o.after.toList, binds e = true ∧ (j = e.on ∨ ∃ q, q < p ∧ idx q = e.on ∧ (msk q).testBit j = true))
  pair : ∀ p q, q < p → p < n → (msk p).testBit (idx q) = true ∨
    (apart (aop q) (aop p) = true ∧ (aop p).op.kind.loud = false ∧ (((aop p).op.kind.reads && (aop q).op.kind.acts) = false ∨ (p - 1 - q) ∈ qsf p))
  inj : ∀ p q, p < n → q < n → idx p = idx q → p = q
  sur : ∀ i, i < ops.size → ∃ p, p < n ∧ idx p = i
  lt : ∀ p, p < n → idx p < ops.size

theorem plan_of {nt : Nat} {ops : Array Oper} {perm : List Nat} {hs os : List (Opr × List Nat)} (hall : (List.range ops.size).all perm.contains = true)
    (h : cD P nt ops perm hs [] [] = some os) : os.length = perm.length ∧ ∃ (aop : Nat → Opr) (qsf : Nat → List Nat) (msk : Nat → Nat),
      Plan P nt ops perm.length (fun p => perm.getD p 0) aop qsf msk ∧ ∀ p, p < perm.length → os[p]? = some (aop p, qsf p) := by
  obtain ⟨l1, mk, l2, l3⟩ := cD_spec perm hs [] [] os h
  refine ⟨l1, fun p => (os.getD p (⟨none, none, .mkmap⟩, [])).1, fun p => (os.getD p (⟨none, none, .mkmap⟩, [])).2, fun p => mk.getD p 0, ?_, ?_⟩
  rotate_left
  · intro p hp
    simp [List.getD, List.getElem?_eq_getElem (show p < os.length by omega)]
  have hidx : ∀ p, p < perm.length → perm[p]? = some (perm.getD p 0) := fun p hp => by simp [List.getD, hp]
  have hos : ∀ p a qs, os[p]? = some (a, qs) → (os.getD p (⟨none, none, .mkmap⟩, [])).1 = a ∧ (os.getD p (⟨none, none, .mkmap⟩, [])).2 = qs := by
    intro p a qs hp; simp [List.getD, hp]
  have hmk : ∀ p m, mk[p]? = some m → mk.getD p 0 = m := by intro p m hp; simp [List.getD, hp]
  have hmem : ∀ k j m, k ≤ perm.length → (j, m) ∈ ((perm.take k).zip (mk.take k)).reverse ++ ([] : List (Nat × Nat)) → ∃ q, q < k ∧ perm.getD q 0 = j ∧ mk.getD q 0 = m := by
    intro k j m hk hm
    rw [List.append_nil, List.mem_reverse] at hm
    obtain ⟨q, hq⟩ := List.mem_iff_getElem?.1 hm
    rw [List.getElem?_zip_eq_some] at hq
    obtain ⟨h1, h2⟩ := hq
    have hqk : q < k := by
      have := (List.getElem?_eq_some_iff.1 h1).1
      simp at this; omega
    rw [List.getElem?_take_of_lt hqk] at h1 h2
    exact ⟨q, hqk, by simp [List.getD, h1], hmk q m h2⟩
  refine ⟨?_, ?_, ?_, ?_, ?_⟩
  · intro p hp
    obtain ⟨o, a, qs, m, e1, e2, e3, e4, e5, e6, e7, e8⟩ := l3 p _ (hidx p hp)
    obtain ⟨s1, s2⟩ := maskOf_spec e5
    refine ⟨o, e1, by rw [(hos p a qs e3).1]; exact e2, fun e he hb => ?_, fun j hj => ?_⟩
    · obtain ⟨m', hm'⟩ := s1 e he hb
      obtain ⟨q, q1, q2, _⟩ := hmem p _ _ (by omega) hm'
      exact ⟨q, q1, q2⟩
    · rw [hmk p m e4] at hj
      obtain ⟨e, he, hb, h1 | ⟨m', hm', hbit⟩⟩ := s2 j hj
      · exact ⟨e, he, hb, .inl h1⟩
      · obtain ⟨q, q1, q2, q3⟩ := hmem p _ _ (by omega) hm'
        exact ⟨e, he, hb, .inr ⟨q, q1, q2, by rw [q3]; exact hbit⟩⟩
  · intro p q hqp hp
    obtain ⟨o, a, qs, m, e1, e2, e3, e4, e5, e6, e7, e8⟩ := l3 p _ (hidx p hp)
    rw [hmk p m e4, (hos p a qs e3).1, (hos p a qs e3).2]
    have hq : q < perm.length := by omega
    obtain ⟨oq, aq, qsq, mq, _, _, f3, _⟩ := l3 q _ (hidx q hq)
    rw [(hos q aq qsq f3).1]
    rw [List.append_nil] at e6
    have hseen : (((perm.take p).zip ((os.take p).map (·.1))).reverse)[p - 1 - q]? = some (perm.getD q 0, aq) := by
      have hzl : ((perm.take p).zip ((os.take p).map (·.1))).length = p := by simp; omega
      rw [List.getElem?_reverse (by omega), hzl, show p - 1 - (p - 1 - q) = q by omega, List.getElem?_zip_eq_some]
      refine ⟨by rw [List.getElem?_take_of_lt hqp]; exact hidx q hq, ?_⟩
      rw [List.getElem?_map, List.getElem?_take_of_lt hqp, f3]; rfl
    have := okPair_spec e6 (p - 1 - q) _ _ hseen
    simpa using this
  · have aux : ∀ p q, p < q → q < perm.length → perm.getD p 0 ≠ perm.getD q 0 := by
      intro p q hpq hq he
      obtain ⟨o, a, qs, m, _, _, _, _, _, _, e7, _⟩ := l3 q _ (hidx q hq)
      refine e7 ?_
      rw [← he]
      rw [List.mem_iff_getElem?]
      exact ⟨p, by rw [List.getElem?_take_of_lt hpq]; exact hidx p (by omega)⟩
    intro p q hp hq he
    rcases Nat.lt_trichotomy p q with h | h | h
    · exact absurd he (aux p q h hq)
    · exact h
    · exact absurd he.symm (aux q p h hp)
  · intro i hi
    have := List.all_eq_true.1 hall i (by simp [hi])
    have hm : i ∈ perm := by simpa using this
    obtain ⟨p, hp⟩ := List.mem_iff_getElem?.1 hm
    have hpl := (List.getElem?_eq_some_iff.1 hp).1
    exact ⟨p, hpl, by simp [List.getD, hp]⟩
  · intro p hp
    obtain ⟨o, _, _, _, e1, _⟩ := l3 p _ (hidx p hp)
    exact (Array.getElem?_eq_some_iff.1 e1).1

/-! ### The state behind a part of the operations -/
section sel
variable (T0 : Nat → V) (aop : Nat → Opr) (vv : Nat → V) (σ : Nat → S) (nw : Nat → Bool)

def tsel (sel : Nat → Bool) : Nat → Nat → V
  | 0, t => T0 t
  | p + 1, t => if sel p = true ∧ (aop p).dst = some t then vv p else tsel sel p t

theorem tsel_congr {sel sel' : Nat → Bool} {t : Nat} : ∀ k, (∀ q, q < k → (aop q).dst = some t → sel q = sel' q) → tsel T0 aop vv sel k t = tsel T0 aop vv sel' k t := by
  intro k
  induction k with
  | zero => intro _; rfl
  | succ k ih =>
    intro h
    simp only [tsel]
    rw [ih fun q hq => h q (by omega)]
    by_cases hd : (aop k).dst = some t
    · rw [h k (by omega) hd]
    · simp [hd]

theorem tsel_above {sel : Nat → Bool} {t p : Nat} : ∀ k, p ≤ k → (∀ q, p ≤ q → q < k → sel q = true → (aop q).dst ≠ some t) → tsel T0 aop vv sel k t = tsel T0 aop vv sel p t := by
  intro k
  induction k with
  | zero => intro h _; obtain rfl : p = 0 := by omega
            rfl
  | succ k ih =>
    intro h hq
    by_cases hpk : p = k + 1
    · rw [hpk]
    · simp only [tsel]
      rw [if_neg (fun hc => hq k (by omega) (by omega) hc.1 hc.2)]
      exact ih (by omega) fun q h1 h2 => hq q h1 (by omega)

noncomputable def hsel (sel : Nat → Bool) (m : Nat) : Nat → Nat → Option Ob
  | 0, id => (σ m).h.get id
  | q + 1, id => if m ≤ q ∧ sel q = true ∧ nw q = true ∧ (σ q).n = id then (σ (q + 1)).h.get id else hsel sel m q id

theorem hsel_le {sel : Nat → Bool} {m id : Nat} : ∀ k, k ≤ m → hsel σ nw sel m k id = (σ m).h.get id := by
  intro k
  induction k with
  | zero => intro _; rfl
  | succ k ih => intro h; simp only [hsel]; rw [if_neg (by omega)]; exact ih (by omega)

theorem hsel_none {sel : Nat → Bool} {m id : Nat} : ∀ k, (∀ q, m ≤ q → q < k → sel q = true → nw q = true → (σ q).n ≠ id) → hsel σ nw sel m k id = (σ m).h.get id := by
  intro k
  induction k with
  | zero => intro _; rfl
  | succ k ih =>
    intro h
    simp only [hsel]
    rw [if_neg (fun hc => h k hc.1 (by omega) hc.2.1 hc.2.2.1 hc.2.2.2)]
    exact ih fun q h1 h2 => h q h1 (by omega)

theorem hsel_at {sel : Nat → Bool} {m id q0 : Nat} : ∀ k, q0 < k → m ≤ q0 → sel q0 = true → nw q0 = true → (σ q0).n = id →
    (∀ q, q0 < q → q < k → nw q = true → (σ q).n ≠ id) → hsel σ nw sel m k id = (σ (q0 + 1)).h.get id := by
  intro k
  induction k with
  | zero => intro h; omega
  | succ k ih =>
    intro h0 h1 h2 h3 h4 h5
    simp only [hsel]
    by_cases hk : q0 = k
    · subst hk; rw [if_pos ⟨h1, h2, h3, h4⟩]
    · rw [if_neg (fun hc => h5 k (by omega) (by omega) hc.2.2.1 hc.2.2.2)]
      exact ih (by omega) h1 h2 h3 h4 fun q a b => h5 q a (by omega)

theorem hsel_cases {sel : Nat → Bool} {m id : Nat} : ∀ k, hsel σ nw sel m k id = (σ m).h.get id ∨ ∃ q, m ≤ q ∧ q < k ∧ sel q = true ∧ nw q = true ∧ (σ q).n = id ∧ hsel σ nw sel m k id = (σ (q + 1)).h.get id := by
  intro k
  induction k with
  | zero => exact .inl rfl
  | succ k ih =>
    simp only [hsel]
    split
    · rename_i hc; exact .inr ⟨k, hc.1, by omega, hc.2.1, hc.2.2.1, hc.2.2.2, rfl⟩
    · rcases ih with h | ⟨q, h1, h2, h3, h4, h5, h6⟩
      · exact .inl h
      · exact .inr ⟨q, h1, by omega, h3, h4, h5, h6⟩
end sel

theorem apart_spec {a b : Opr} (h : apart a b = true) : (∀ d, a.dst = some d → d ∉ b.uses ∧ b.dst ≠ some d) ∧ ∀ d, b.dst = some d → d ∉ a.uses := by
  simp only [apart, Bool.and_eq_true] at h
  refine ⟨fun d hd => ?_, fun d hd => ?_⟩
  · have := h.1; rw [hd] at this; simpa using this
  · have := h.2; rw [hd] at this; simpa using this
end Go.Am
