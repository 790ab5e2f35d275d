/- A region that draws its order: parts. -/
import Derived.Test.YtmjaimpkjjkliaaGreatAmM11
namespace Go.Am
variable {P : Program} {M : Mp}

theorem Ext.weaken {M M' : Mp} {σ σ' : Nat → Option Ob} {lo hi lo' hi' : Nat} {w w' : World} (h : Ext M M' σ σ' lo hi w w') (h1 : lo' ≤ lo) (h2 : hi ≤ hi') : Ext M M' σ σ' lo' hi' w w' :=
  ⟨h.le, h.I, fun id hn hr => h.same id hn (by omega), h.os, h.out, h.size, h.frame, h.new, h.dom, fun id hx => by
    rcases h.dom' id hx with hc | hc
    · exact .inl hc
    · exact .inr (by omega)⟩

theorem Ext.join {M M1 M2 : Mp} {σ σ1 σ2 : Nat → Option Ob} {lo hi : Nat} {w w1 w2 : World}
    (h : Ext M M1 σ σ1 lo hi w w1) (k : Ext M1 M2 σ1 σ2 lo hi w1 w2) (hf : Fresh M lo hi) : Ext M M2 σ σ2 lo hi w w2 where
  le := h.le.trans k.le
  I b o v hv := by
    rcases k.I b o v hv with h1 | h1 | ⟨id, e, n, c, hid, hM⟩
    · exact h.I b o v h1
    · exact .inr (.inl (Nat.le_trans h.size h1))
    · rcases h.new id e b n c hM with h' | h' | ⟨hσ, e', n', c', h'⟩
      · rcases h.dom' id hid with hc | hc
        · exact .inr (.inr ⟨id, e, n, c, hc, h'⟩)
        · rw [hf id hc.1 hc.2 e] at h'; exact absurd h' (by simp)
      · exact .inr (.inl h')
      · exact .inr (.inr ⟨id, e', n', c', hσ, h'⟩)
  same id hn hr e := by
    have h1 : σ1 id = none := by
      cases hx : σ1 id with
      | none => rfl
      | some x => rcases h.dom' id (by simp [hx]) with hc | hc
                  · exact absurd hn hc
                  · exact absurd hc hr
    rw [k.same id h1 hr e, h.same id hn hr e]
  os := k.os.trans h.os
  out := k.out.trans h.out
  size := Nat.le_trans h.size k.size
  frame b hb hn := by
    rw [k.frame b (Nat.lt_of_lt_of_le hb h.size) ?_, h.frame b hb hn]
    intro id e n c hid hM
    rcases h.new id e b n c hM with h' | h' | ⟨hσ, e', n', c', h'⟩
    · rcases h.dom' id hid with hc | hc
      · exact hn id e n c hc h'
      · rw [hf id hc.1 hc.2 e] at h'; exact absurd h' (by simp)
    · omega
    · exact hn id e' n' c' hσ h'
  new id e b n c hM := by
    rcases k.new id e b n c hM with h' | h' | ⟨hσ, e', n', c', h'⟩
    · exact h.new id e b n c h'
    · exact .inr (.inl (Nat.le_trans h.size h'))
    · rcases h.new id e' b n' c' h' with h2 | h2 | ⟨h2, e2, n2, c2, h3⟩
      · rcases h.dom' id hσ with hc | hc
        · exact .inr (.inr ⟨hc, e', n', c', h2⟩)
        · rw [hf id hc.1 hc.2 e'] at h2; exact absurd h2 (by simp)
      · exact .inr (.inl h2)
      · exact .inr (.inr ⟨h2, e2, n2, c2, h3⟩)
  dom id hx := k.dom id (h.dom id hx)
  dom' id hx := by
    rcases k.dom' id hx with hc | hc
    · exact h.dom' id hc
    · exact .inr hc

mutual
theorem beq_eq : ∀ (a b : V), V.beq a b = true → a = b := by
  intro a b h
  cases a <;> cases b <;> simp only [V.beq] at h <;> (try (simp at h; done)) <;> (try rfl)
  · simp only [Bool.and_eq_true, decide_eq_true_eq] at h; rw [h.1, h.2]
  · rw [eq_of_beq h]
  · rw [of_decide_eq_true h]
  · simp only [Bool.and_eq_true, Nat.beq_eq] at h; rw [h.1.1.1, h.1.1.2, h.1.2, h.2]
  · rw [beqs_eq _ _ h]
  · simp only [Bool.and_eq_true, Nat.beq_eq] at h; rw [h.1.1.1.1, h.1.1.1.2, h.1.1.2, h.1.2, h.2]
  · simp only [Bool.and_eq_true, Nat.beq_eq] at h; rw [beqs_eq _ _ h.1, h.2]
  · rw [Nat.eq_of_beq_eq_true h]
  · simp only [Bool.and_eq_true, Nat.beq_eq] at h; rw [h.1, beqs_eq _ _ h.2]
  · rw [beqs_eq _ _ h]
  · rw [beqs_eq _ _ h]
theorem beqs_eq : ∀ (a b : List V), V.beqs a b = true → a = b := by
  intro a b h
  cases a <;> cases b <;> simp only [V.beqs] at h <;> (try (simp at h; done)) <;> (try rfl)
  simp only [Bool.and_eq_true] at h
  rw [beq_eq _ _ h.1, beqs_eq _ _ h.2]
end

/-! ### What a read looks at -/
theorem readOp_row {tm : Tm} {o : AOp} {h h' : Heap} (hr : ∀ id, readRow tm o = some id → h.get id = h'.get id) : readOp tm o h = readOp tm o h' := by
  unfold readOp
  split
  · rename_i k x
    simp only [readRow] at hr
    unfold loadAt rdCells
    cases hx : x.ev tm <;> simp only
    rename_i id ep off lim
    rw [hr id (by simp [hx, rowOf])]
  · rename_i tk z ok m k
    simp only [readRow] at hr
    cases hx : m.ev tm <;> simp only
    rename_i id
    rw [hr id (by simp [hx, rowOf])]
  · rename_i x
    simp only [readRow] at hr
    cases hx : x.ev tm <;> simp only [lenV, srcCells]
    rename_i id ep off len sz
    rw [hr id (by simp [hx, rowOf])]
  · rfl

theorem readOp_nil {tm : Tm} {o : AOp} {id : Nat} (hr : readRow tm o = some id) {h : Heap} (hn : h.get id = none) : readOp tm o h = none := by
  unfold readOp
  split
  · rename_i k x
    simp only [readRow] at hr
    unfold loadAt rdCells
    cases hx : x.ev tm <;> simp [hx, rowOf] at hr ⊢
    subst hr; simp [hn]
  · rename_i tk z ok m k
    simp only [readRow] at hr
    cases hx : m.ev tm <;> simp [hx, rowOf] at hr ⊢
    subst hr; simp [hn]
  · rename_i x
    simp only [readRow] at hr
    cases hx : x.ev tm <;> simp [hx, rowOf] at hr ⊢ <;> simp [lenV, srcCells]
    subst hr; simp [hn]
  · rfl

theorem sameRead_spec {tm : Tm} {o : AOp} {v : V} {id : Nat} {r : Recs} : ∀ {qs : List Nat}, sameRead tm o v id r qs = true → ∀ q ∈ qs, ∃ sb sa, r[q]? = some (sb, sa) ∧
    (sa.n ≤ id ∨ (readOp tm o sb.h = some v ∧ readOp tm o sa.h = some v)) := by
  intro qs
  induction qs with
  | nil => intro _ q hq; simp at hq
  | cons q0 qs ih =>
    intro h q hq
    simp only [sameRead] at h
    split at h <;> (try (simp at h; done))
    rename_i sb sa hr
    cases hn : Nat.ble sa.n id with
    | true =>
      rw [hn] at h
      simp only [cond_true] at h
      rcases List.mem_cons.1 hq with rfl | hq'
      · exact ⟨sb, sa, hr, .inl (Nat.le_of_ble_eq_true hn)⟩
      · exact ih h q hq'
    | false =>
      rw [hn] at h
      simp only [cond_false] at h
      split at h <;> (try (simp at h; done))
      rename_i x y hx hy
      simp only [Bool.and_eq_true] at h
      rcases List.mem_cons.1 hq with rfl | hq'
      · exact ⟨sb, sa, hr, .inr ⟨by rw [hx, beq_eq _ _ h.1.1], by rw [hy, beq_eq _ _ h.1.2]⟩⟩
      · exact ih h.2 q hq'

/-! ### The trace of a drawn region -/
def recsOf (σ : Nat → S) (k : Nat) : Recs := ((List.range k).reverse.map fun q => (σ q, σ (q + 1)))

/-- One operation, whoever answers its call. -/
def Exec (P : Program) (tm : Tm) (o : AOp) (s : S) (v : V) (s' : S) : Prop := ∃ call, CallOK P call ∧ Am.execOp call tm o s = some (v, s')

inductive RunD (P : Program) : List (Opr × List Nat) → Recs → Tm → S → Tm → S → Prop
  | nil (r : Recs) (tm : Tm) (s : S) : RunD P [] r tm s tm s
  | step {o : Opr} {qs : List Nat} {os : List (Opr × List Nat)} {r : Recs} {tm : Tm} {s : S} {v : V} {s1 : S} {tm' : Tm} {s' : S} (hw : wanted tm o.g = true) (he : Exec P tm o.op s v s1)
      (ha : allowed tm o.op v r qs = true) (h : RunD P os ((s, s1) :: r) (put tm o.dst v) s1 tm' s') : RunD P ((o, qs) :: os) r tm s tm' s'
  | skip {o : Opr} {qs : List Nat} {os : List (Opr × List Nat)} {r : Recs} {tm : Tm} {s : S} {tm' : Tm} {s' : S} (hw : wanted tm o.g = false)
      (h : RunD P os ((s, s) :: r) (put tm o.dst .undef) s tm' s') : RunD P ((o, qs) :: os) r tm s tm' s'

theorem RunD.of_run {P : Program} {call : Caller} (hcall : CallOK P call) : ∀ (os : List (Opr × List Nat)) (r : Recs) (tm : Tm) (s : S) (tm' : Tm) (s' : S), runD call os r tm s = some (tm', s') → RunD P os r tm s tm' s' := by
  intro os
  induction os with
  | nil =>
    intro r tm s tm' s' h
    simp only [runD, Option.some.injEq, Prod.mk.injEq] at h
    obtain ⟨rfl, rfl⟩ := h
    exact .nil _ _ _
  | cons x os ih =>
    obtain ⟨a, qs⟩ := x
    intro r tm s tm' s' h
    simp only [runD] at h
    cases hw : wanted tm a.g with
    | true =>
      rw [hw] at h
      simp only [cond_true] at h
      split at h <;> (try (simp at h; done))
      rename_i v s1 hex
      cases hal : allowed tm a.op v r qs with
      | false => rw [hal] at h; simp at h
      | true =>
        rw [hal] at h
        simp only [cond_true] at h
        exact .step hw ⟨call, hcall, hex⟩ hal (ih _ _ _ _ _ h)
    | false =>
      rw [hw] at h
      simp only [cond_false] at h
      exact .skip hw (ih _ _ _ _ _ h)

structure StepAt (P : Program) (T : Nat → Tm) (σ : Nat → S) (vv : Nat → V) (r : Recs) (k : Nat) (a : Opr) (qs : List Nat) : Prop where
  tm : T (k + 1) = put (T k) a.dst (vv k)
  st : (wanted (T k) a.g = true ∧ Exec P (T k) a.op (σ k) (vv k) (σ (k + 1)) ∧ allowed (T k) a.op (vv k) (recsOf σ k ++ r) qs = true) ∨
    (wanted (T k) a.g = false ∧ vv k = .undef ∧ σ (k + 1) = σ k)

theorem runD_trace {P : Program} : ∀ (os : List (Opr × List Nat)) (r : Recs) (tm : Tm) (s : S) (tm' : Tm) (s' : S), RunD P os r tm s tm' s' →
    ∃ (T : Nat → Tm) (σ : Nat → S) (vv : Nat → V), T 0 = tm ∧ σ 0 = s ∧ T os.length = tm' ∧ σ os.length = s' ∧ ∀ k a qs, os[k]? = some (a, qs) → StepAt P T σ vv r k a qs := by
  intro os
  induction os with
  | nil =>
    intro r tm s tm' s' h
    cases h
    exact ⟨fun _ => tm, fun _ => s, fun _ => .undef, rfl, rfl, rfl, rfl, by simp⟩
  | cons x os ih =>
    obtain ⟨a, qs⟩ := x
    intro r tm s tm' s' h
    have go : ∀ (v : V) (s1 : S), RunD P os ((s, s1) :: r) (put tm a.dst v) s1 tm' s' →
        ((wanted tm a.g = true ∧ Exec P tm a.op s v s1 ∧ allowed tm a.op v r qs = true) ∨ (wanted tm a.g = false ∧ v = .undef ∧ s1 = s)) →
        ∃ (T : Nat → Tm) (σ : Nat → S) (vv : Nat → V), T 0 = tm ∧ σ 0 = s ∧ T ((a, qs) :: os).length = tm' ∧ σ ((a, qs) :: os).length = s' ∧ ∀ k a' qs', ((a, qs) :: os)[k]? = some (a', qs') → StepAt P T σ vv r k a' qs' := by
      intro v s1 hr hst
      obtain ⟨T, σ, vv, h1, h2, h3, h4, h5⟩ := ih _ _ _ _ _ hr
      refine ⟨fun | 0 => tm | k + 1 => T k, fun | 0 => s | k + 1 => σ k, fun | 0 => v | k + 1 => vv k, rfl, rfl, h3, h4, ?_⟩
      intro k a' qs' hk
      cases k with
      | zero =>
        simp only [List.getElem?_cons_zero, Option.some.injEq, Prod.mk.injEq] at hk
        obtain ⟨rfl, rfl⟩ := hk
        refine ⟨h1, ?_⟩
        simp only [h2, recsOf]
        simpa using hst
      | succ k =>
        simp only [List.getElem?_cons_succ] at hk
        have := h5 k a' qs' hk
        refine ⟨this.tm, ?_⟩
        have hrec : recsOf (fun | 0 => s | k + 1 => σ k) (k + 1) ++ r = recsOf σ k ++ (s, s1) :: r := by
          simp only [recsOf, List.range_succ_eq_map, List.reverse_cons, List.map_append, List.map_cons, List.map_nil, List.append_assoc, List.cons_append, List.nil_append, h2]
          congr 1
          rw [← List.map_reverse, List.map_map]
          rfl
        rw [hrec]
        exact this.st
    cases h with
    | step hw he ha h => exact go _ _ h (.inl ⟨hw, he, ha⟩)
    | skip hw h => exact go .undef s h (.inr ⟨hw, rfl, rfl⟩)

theorem recsOf_get (σ : Nat → S) (k q : Nat) (h : q < k) : (recsOf σ k)[k - 1 - q]? = some (σ q, σ (q + 1)) := by
  unfold recsOf
  rw [List.getElem?_map, List.getElem?_reverse (by simp; omega)]
  simp only [List.length_range]
  rw [List.getElem?_range (by omega)]
  simp only [Option.map_some]
  rw [show k - 1 - (k - 1 - q) = q by omega]

/-! ### The plan of a drawn region -/
theorem okPair_spec {m : Nat} {a : Opr} {qs : List Nat} : ∀ {seen : List (Nat × Opr)} {q0 : Nat}, okPair m a qs q0 seen = true → ∀ r j b, seen[r]? = some (j, b) →
    m.testBit j = true ∨ (apart b a = true ∧ a.op.kind.loud = false ∧ ((a.op.kind.reads && b.op.kind.acts) = false ∨ (q0 + r) ∈ qs)) := by
  intro seen
  induction seen with
  | nil => intro q0 _ r j b hr; simp at hr
  | cons x seen ih =>
    obtain ⟨j0, b0⟩ := x
    intro q0 h r j b hr
    simp only [okPair, Bool.and_eq_true] at h
    cases r with
    | zero =>
      simp only [List.getElem?_cons_zero, Option.some.injEq, Prod.mk.injEq] at hr
      obtain ⟨rfl, rfl⟩ := hr
      have h1 := h.1
      simp only [Bool.or_eq_true, Bool.and_eq_true, Bool.not_eq_true'] at h1
      rcases h1 with h1 | h1
      · exact .inl h1
      · refine .inr ⟨h1.1.1, h1.1.2, ?_⟩
        rcases h1.2 with h2 | h2
        · exact .inl h2
        · exact .inr (by simpa using h2)
    | succ r =>
      simp only [List.getElem?_cons_succ] at hr
      have := ih h.2 r j b hr
      rwa [show q0 + 1 + r = q0 + (r + 1) by omega] at this

theorem lookup_mem {ms : List (Nat × Nat)} {j m : Nat} (h : ms.lookup j = some m) : (j, m) ∈ ms := by
  induction ms with
  | nil => simp at h
  | cons x ms ih =>
    obtain ⟨a, b⟩ := x
    simp only [List.lookup_cons] at h
    split at h
    · rename_i hq
      simp only [Option.some.injEq] at h
      rw [← h, eq_of_beq hq]; simp
    · exact List.mem_cons_of_mem _ (ih h)

theorem maskOf_spec {ms : List (Nat × Nat)} : ∀ {es : List Edge} {m : Nat}, maskOf ms es = some m →
    (∀ e ∈ es, binds e = true → ∃ m', (e.on, m') ∈ ms) ∧
    ∀ j, m.testBit j = true → ∃ e ∈ es, binds e = true ∧ (j = e.on ∨ ∃ m', (e.on, m') ∈ ms ∧ m'.testBit j = true) := by
  intro es
  induction es with
  | nil => intro m h; simp only [maskOf, Option.some.injEq] at h; subst h; simp
  | cons e es ih =>
    intro m h
    simp only [maskOf] at h
    split at h <;> (try (simp at h; done))
    rename_i m0 hm0
    obtain ⟨i1, i2⟩ := ih hm0
    split at h
    · rename_i hb
      split at h <;> simp at h
      rename_i m1 hl; subst h
      have hmem := lookup_mem hl
      refine ⟨fun e' he' hb' => ?_, fun j hj => ?_⟩
      · rcases List.mem_cons.1 he' with rfl | he'
        · exact ⟨m1, hmem⟩
        · exact i1 e' he' hb'
      · simp only [Nat.testBit_or, Bool.or_eq_true] at hj
        rcases hj with (hj | hj) | hj
        · obtain ⟨e', h1, h2, h3⟩ := i2 j hj
          exact ⟨e', List.mem_cons_of_mem _ h1, h2, h3⟩
        · exact ⟨e, by simp, hb, .inr ⟨m1, hmem, hj⟩⟩
        · rw [Nat.testBit_two_pow] at hj
          exact ⟨e, by simp, hb, .inl (by simpa using (of_decide_eq_true hj).symm)⟩
    · rename_i hb
      simp only [Option.some.injEq] at h; subst h
      refine ⟨fun e' he' hb' => ?_, fun j hj => ?_⟩
      · rcases List.mem_cons.1 he' with rfl | he'
        · exact absurd hb' hb
        · exact i1 e' he' hb'
      · obtain ⟨e', h1, h2, h3⟩ := i2 j hj
        exact ⟨e', List.mem_cons_of_mem _ h1, h2, h3⟩

theorem cD_spec {nt : Nat} {ops : Array Oper} : ∀ (is : List Nat) (hs : List (Opr × List Nat)) (seen : List (Nat × Opr)) (ms : List (Nat × Nat)) (os : List (Opr × List Nat)),
    cD P nt ops is hs seen ms = some os → os.length = is.length ∧ ∃ mk : List Nat, mk.length = is.length ∧ ∀ k i, is[k]? = some i →
      ∃ o a qs m, ops[i]? = some o ∧ cOper P nt ops o = some a ∧ os[k]? = some (a, qs) ∧ mk[k]? = some m ∧
        maskOf (((is.take k).zip (mk.take k)).reverse ++ ms) o.after.toList = some m ∧
        okPair m a qs 0 (((is.take k).zip ((os.take k).map (·.1))).reverse ++ seen) = true ∧ i ∉ is.take k ∧ i ∉ ms.map (·.1) := by
  intro is
  induction is with
  | nil =>
    intro hs seen ms os h
    cases hs <;> simp [cD] at h
    subst h
    exact ⟨rfl, [], rfl, by simp⟩
  | cons i is ih =>
    intro hs seen ms os h
    cases hs with
    | nil => simp [cD] at h
    | cons x hs =>
      obtain ⟨x1, qs⟩ := x
      simp only [cD] at h
      split at h <;> (try (simp at h; done))
      rename_i o ho
      split at h <;> (try (simp at h; done))
      rename_i m a hm ha
      split at h <;> (try (simp at h; done))
      rename_i hc
      simp only [Bool.and_eq_true, Bool.not_eq_true'] at hc
      simp only [Option.map_eq_some_iff] at h
      obtain ⟨os', h1, rfl⟩ := h
      obtain ⟨l1, mk, l2, l3⟩ := ih hs _ _ os' h1
      have hni : i ∉ ms.map (·.1) := by
        intro hmem
        have : (ms.map (·.1)).contains i = true := by simpa using hmem
        rw [hc.1] at this; simp at this
      refine ⟨by simp [l1], m :: mk, by simp [l2], ?_⟩
      intro k j hk
      cases k with
      | zero =>
        simp only [List.getElem?_cons_zero, Option.some.injEq] at hk; subst hk
        exact ⟨o, a, qs, m, ho, ha, by simp, by simp, by simpa using hm, by simpa using hc.2, by simp, hni⟩
      | succ k =>
        simp only [List.getElem?_cons_succ] at hk
        obtain ⟨o', a', qs', m', e1, e2, e3, e4, e5, e6, e7, e8⟩ := l3 k j hk
        refine ⟨o', a', qs', m', e1, e2, by simpa using e3, by simpa using e4, ?_, ?_, ?_, ?_⟩
        · simpa using e5
        · simpa using e6
        · simp only [List.take_succ_cons, List.mem_cons, not_or]
          refine ⟨fun he => e8 (by simp [he]), e7⟩
        · exact fun hmem => e8 (by simp at hmem ⊢; exact .inr hmem)

end Go.Am
