/- My texts, put together (6). -/
import Derived.Test.YtmjaimpkjjkliaaGreatQn5
namespace Go.Am
variable {P : Program} {M : Mp}
theorem Ext.weaken {M M' : Mp} {σ σ' : Nat → Option Ob} {lo hi lo' hi' : Nat} {w w' : World} (h : Ext M M' σ σ' lo hi w w') (h1 : lo' ≤ lo) (h2 : hi ≤ hi') : Ext M M' σ σ' lo' hi' w w' :=
 ⟨h.le, h.I, fun id hn hr => h.same id hn (by omega), h.os, h.out, h.size, h.frame, h.new, h.dom, fun id hx => by
  rcases h.dom' id hx with hc | hc
  ·exact .inl hc
  ·exact .inr (by omega)⟩
theorem Ext.join {M M1 M2 : Mp} {σ σ1 σ2 : Nat → Option Ob} {lo hi : Nat} {w w1 w2 : World}
  (h : Ext M M1 σ σ1 lo hi w w1) (k : Ext M1 M2 σ1 σ2 lo hi w1 w2) (hf : Fresh M lo hi) : Ext M M2 σ σ2 lo hi w w2 where
 le := h.le.trans k.le
 I b o v hv := by
  rcases k.I b o v hv with h1 | h1 | ⟨id, e, n, c, hid, hM⟩
  ·exact h.I b o v h1
  ·exact .inr (.inl (Nat.le_trans h.size h1))
  ·rcases h.new id e b n c hM with h' | h' | ⟨hσ, e', n', c', h'⟩
   ·rcases h.dom' id hid with hc | hc
    ·exact .inr (.inr ⟨id, e, n, c, hc, h'⟩)
    ·rw [hf id hc.1 hc.2 e] at h'; exact absurd h' (by simp)
   ·exact .inr (.inl h')
   ·exact .inr (.inr ⟨id, e', n', c', hσ, h'⟩)
 same id hn hr e := by
  have h1 : σ1 id = none := by
   cases hx : σ1 id with
   | none => rfl
   | some x => rcases h.dom' id (by simp [hx]) with hc | hc
               · exact absurd hn hc
               · exact absurd hc hr
  rw [k.same id h1 hr e, h.same id hn hr e]
 os := k.os.trans h.os
 out := k.out.trans h.out
 size := Nat.le_trans h.size k.size
 frame b hb hn := by
  rw [k.frame b (Nat.lt_of_lt_of_le hb h.size) ?_, h.frame b hb hn]
  intro id e n c hid hM
  rcases h.new id e b n c hM with h' | h' | ⟨hσ, e', n', c', h'⟩
  ·rcases h.dom' id hid with hc | hc
   ·exact hn id e n c hc h'
   ·rw [hf id hc.1 hc.2 e] at h'; exact absurd h' (by simp)
  ·omega
  ·exact hn id e' n' c' hσ h'
 new id e b n c hM := by
  rcases k.new id e b n c hM with h' | h' | ⟨hσ, e', n', c', h'⟩
  ·exact h.new id e b n c h'
  ·exact .inr (.inl (Nat.le_trans h.size h'))
  ·rcases h.new id e' b n' c' h' with h2 | h2 | ⟨h2, e2, n2, c2, h3⟩
   ·rcases h.dom' id hσ with hc | hc
    ·exact .inr (.inr ⟨hc, e', n', c', h2⟩)
    ·rw [hf id hc.1 hc.2 e'] at h2; exact absurd h2 (by simp)
   ·exact .inr (.inl h2)
   ·exact .inr (.inr ⟨h2, e2, n2, c2, h3⟩)
 dom id hx := k.dom id (h.dom id hx)
 dom' id hx := by
  rcases k.dom' id hx with hc | hc
  ·exact h.dom' id hc
  ·exact .inr hc
mutual
theorem beq_eq : ∀ (a b : V), V.beq a b = true → a = b := by
 intro a b h
 cases a <;> cases b <;> simp only [V.beq] at h <;> (try (simp at h; done)) <;> (try rfl)
 ·simp only [Bool.and_eq_true, decide_eq_true_eq] at h; rw [h.1, h.2]
 ·rw [eq_of_beq h]
 ·rw [of_decide_eq_true h]
 ·simp only [Bool.and_eq_true, Nat.beq_eq] at h; rw [h.1.1.1, h.1.1.2, h.1.2, h.2]
 ·rw [beqs_eq _ _ h]
 ·simp only [Bool.and_eq_true, Nat.beq_eq] at h; rw [h.1.1.1.1, h.1.1.1.2, h.1.1.2, h.1.2, h.2]
 ·simp only [Bool.and_eq_true, Nat.beq_eq] at h; rw [beqs_eq _ _ h.1, h.2]
 ·rw [Nat.eq_of_beq_eq_true h]
 ·simp only [Bool.and_eq_true, Nat.beq_eq] at h; rw [h.1, beqs_eq _ _ h.2]
 ·rw [beqs_eq _ _ h]
 ·rw [beqs_eq _ _ h]
theorem beqs_eq : ∀ (a b : List V), V.beqs a b = true → a = b := by
 intro a b h
 cases a <;> cases b <;> simp only [V.beqs] at h <;> (try (simp at h; done)) <;> (try rfl)
 simp only [Bool.and_eq_true] at h
 rw [beq_eq _ _ h.1, beqs_eq _ _ h.2]
end
theorem readOp_row {tm : Tm} {o : AOp} {h h' : Heap} (hr : ∀ id, readRow tm o = some id → h.get id = h'.get id) : readOp tm o h = readOp tm o h' := by
 unfold readOp
 split
 ·rename_i k x
  simp only [readRow] at hr
  unfold loadAt rdCells
  cases hx : x.ev tm <;> simp only
  rename_i id ep off lim
  rw [hr id (by simp [hx, rowOf])]
 ·rename_i tk z ok m k
  simp only [readRow] at hr
  cases hx : m.ev tm <;> simp only
  rename_i id
  rw [hr id (by simp [hx, rowOf])]
 ·rename_i x
  simp only [readRow] at hr
  cases hx : x.ev tm <;> simp only [lenV, srcCells]
  rename_i id ep off len sz
  rw [hr id (by simp [hx, rowOf])]
 ·rfl
theorem readOp_nil {tm : Tm} {o : AOp} {id : Nat} (hr : readRow tm o = some id) {h : Heap} (hn : h.get id = none) : readOp tm o h = none := by
 unfold readOp
 split
 ·rename_i k x
  simp only [readRow] at hr
  unfold loadAt rdCells
  cases hx : x.ev tm <;> simp [hx, rowOf] at hr ⊢
  subst hr; simp [hn]
 ·rename_i tk z ok m k
  simp only [readRow] at hr
  cases hx : m.ev tm <;> simp [hx, rowOf] at hr ⊢
  subst hr; simp [hn]
 ·rename_i x
  simp only [readRow] at hr
  cases hx : x.ev tm <;> simp [hx, rowOf] at hr ⊢ <;> simp [lenV, srcCells]
  subst hr; simp [hn]
 ·rfl
theorem sameRead_spec {tm : Tm} {o : AOp} {v : V} {id : Nat} {r : Recs} : ∀ {qs : List Nat}, sameRead tm o v id r qs = true → ∀ q ∈ qs, ∃ sb sa, r[q]? = some (sb, sa) ∧
  (sa.n ≤ id ∨ (readOp tm o sb.h = some v ∧ readOp tm o sa.h = some v)) := by
 intro qs
 induction qs with
 | nil => intro _ q hq; simp at hq
 | cons q0 qs ih =>
  intro h q hq
  simp only [sameRead] at h
  split at h <;> (try (simp at h; done))
  rename_i sb sa hr
  cases hn : Nat.ble sa.n id with
  | true =>
   rw [hn] at h
   simp only [cond_true] at h
   rcases List.mem_cons.1 hq with rfl | hq'
   ·exact ⟨sb, sa, hr, .inl (Nat.le_of_ble_eq_true hn)⟩
   ·exact ih h q hq'
  | false =>
   rw [hn] at h
   simp only [cond_false] at h
   split at h <;> (try (simp at h; done))
   rename_i x y hx hy
   simp only [Bool.and_eq_true] at h
   rcases List.mem_cons.1 hq with rfl | hq'
   ·exact ⟨sb, sa, hr, .inr ⟨by rw [hx, beq_eq _ _ h.1.1], by rw [hy, beq_eq _ _ h.1.2]⟩⟩
   ·exact ih h.2 q hq'
def recsOf (σ : Nat → S) (k : Nat) : Recs := ((List.range k).reverse.map fun q => (σ q, σ (q + 1)))
def Exec (P : Program) (tm : Tm) (o : AOp) (s : S) (v : V) (s' : S) : Prop := ∃ call, CallOK P call ∧ Am.execOp call tm o s = some (v, s')
inductive RunD (P : Program) : List (Opr × List Nat) → Recs → Tm → S → Tm → S → Prop
 | nil (r : Recs) (tm : Tm) (s : S) : RunD P [] r tm s tm s
 | step {o : Opr} {qs : List Nat} {os : List (Opr × List Nat)} {r : Recs} {tm : Tm} {s : S} {v : V} {s1 : S} {tm' : Tm} {s' : S} (hw : wanted tm o.g = true) (he : Exec P tm o.op s v s1)
   (ha : allowed tm o.op v r qs = true) (h : RunD P os ((s, s1) :: r) (put tm o.dst v) s1 tm' s') : RunD P ((o, qs) :: os) r tm s tm' s'
 | skip {o : Opr} {qs : List Nat} {os : List (Opr × List Nat)} {r : Recs} {tm : Tm} {s : S} {tm' : Tm} {s' : S} (hw : wanted tm o.g = false)
   (h : RunD P os ((s, s) :: r) (put tm o.dst .undef) s tm' s') : RunD P ((o, qs) :: os) r tm s tm' s'
theorem RunD.of_run {P : Program} {call : Caller} (hcall : CallOK P call) : ∀ (os : List (Opr × List Nat)) (r : Recs) (tm : Tm) (s : S) (tm' : Tm) (s' : S), runD call os r tm s = some (tm', s') → RunD P os r tm s tm' s' := by
 intro os
 induction os with
 | nil =>
  intro r tm s tm' s' h
  simp only [runD, Option.some.injEq, Prod.mk.injEq] at h
  obtain ⟨rfl, rfl⟩ := h
  exact .nil _ _ _
 | cons x os ih =>
  obtain ⟨a, qs⟩ := x
  intro r tm s tm' s' h
  simp only [runD] at h
  cases hw : wanted tm a.g with
  | true =>
   rw [hw] at h
   simp only [cond_true] at h
   split at h <;> (try (simp at h; done))
   rename_i v s1 hex
   cases hal : allowed tm a.op v r qs with
   | false => rw [hal] at h; simp at h
   | true =>
    rw [hal] at h
    simp only [cond_true] at h
    exact .step hw ⟨call, hcall, hex⟩ hal (ih _ _ _ _ _ h)
  | false =>
   rw [hw] at h
   simp only [cond_false] at h
   exact .skip hw (ih _ _ _ _ _ h)
structure StepAt (P : Program) (T : Nat → Tm) (σ : Nat → S) (vv : Nat → V) (r : Recs) (k : Nat) (a : Opr) (qs : List Nat) : Prop where
 tm : T (k + 1) = put (T k) a.dst (vv k)
 st : (wanted (T k) a.g = true ∧ Exec P (T k) a.op (σ k) (vv k) (σ (k + 1)) ∧ allowed (T k) a.op (vv k) (recsOf σ k ++ r) qs = true) ∨
  (wanted (T k) a.g = false ∧ vv k = .undef ∧ σ (k + 1) = σ k)
theorem runD_trace {P : Program} : ∀ (os : List (Opr × List Nat)) (r : Recs) (tm : Tm) (s : S) (tm' : Tm) (s' : S), RunD P os r tm s tm' s' →
  ∃ (T : Nat → Tm) (σ : Nat → S) (vv : Nat → V), T 0 = tm ∧ σ 0 = s ∧ T os.length = tm' ∧ σ os.length = s' ∧ ∀ k a qs, os[k]? = some (a, qs) → StepAt P T σ vv r k a qs := by
 intro os
 induction os with
 | nil =>
  intro r tm s tm' s' h
  cases h
  exact ⟨fun _ => tm, fun _ => s, fun _ => .undef, rfl, rfl, rfl, rfl, by simp⟩
 | cons x os ih =>
  obtain ⟨a, qs⟩ := x
  intro r tm s tm' s' h
  have go : ∀ (v : V) (s1 : S), RunD P os ((s, s1) :: r) (put tm a.dst v) s1 tm' s' →
    ((wanted tm a.g = true ∧ Exec P tm a.op s v s1 ∧ allowed tm a.op v r qs = true) ∨ (wanted tm a.g = false ∧ v = .undef ∧ s1 = s)) →
    ∃ (T : Nat → Tm) (σ : Nat → S) (vv : Nat → V), T 0 = tm ∧ σ 0 = s ∧ T ((a, qs) :: os).length = tm' ∧ σ ((a, qs) :: os).length = s' ∧ ∀ k a' qs', ((a, qs) :: os)[k]? = some (a', qs') → StepAt P T σ vv r k a' qs' := by
   intro v s1 hr hst
   obtain ⟨T, σ, vv, h1, h2, h3, h4, h5⟩ := ih _ _ _ _ _ hr
   refine ⟨fun | 0 => tm | k + 1 => T k, fun | 0 => s | k + 1 => σ k, fun | 0 => v | k + 1 => vv k, rfl, rfl, h3, h4, ?_⟩
   intro k a' qs' hk
   cases k with
   | zero =>
    simp only [List.getElem?_cons_zero, Option.some.injEq, Prod.mk.injEq] at hk
    obtain ⟨rfl, rfl⟩ := hk
    refine ⟨h1, ?_⟩
    simp only [h2, recsOf]
    simpa using hst
   | succ k =>
    simp only [List.getElem?_cons_succ] at hk
    have := h5 k a' qs' hk
    refine ⟨this.tm, ?_⟩
    have hrec : recsOf (fun | 0 => s | k + 1 => σ k) (k + 1) ++ r = recsOf σ k ++ (s, s1) :: r := by
     simp only [recsOf, List.range_succ_eq_map, List.reverse_cons, List.map_append, List.map_cons, List.map_nil, List.append_assoc, List.cons_append, List.nil_append, h2]
     congr 1
     rw [← List.map_reverse, List.map_map]
     rfl
    rw [hrec]
    exact this.st
  cases h with
  | step hw he ha h => exact go _ _ h (.inl ⟨hw, he, ha⟩)
  | skip hw h => exact go .undef s h (.inr ⟨hw, rfl, rfl⟩)
theorem recsOf_get (σ : Nat → S) (k q : Nat) (h : q < k) : (recsOf σ k)[k - 1 - q]? = some (σ q, σ (q + 1)) := by
 unfold recsOf
 rw [List.getElem?_map, List.getElem?_reverse (by simp; omega)]
 simp only [List.length_range]
 rw [List.getElem?_range (by omega)]
 simp only [Option.map_some]
 rw [show k - 1 - (k - 1 - q) = q by omega]
theorem okPair_spec {m : Nat} {a : Opr} {qs : List Nat} : ∀ {seen : List (Nat × Opr)} {q0 : Nat}, okPair m a qs q0 seen = true → ∀ r j b, seen[r]? = some (j, b) →
  m.testBit j = true ∨ (apart b a = true ∧ a.op.kind.loud = false ∧ ((a.op.kind.reads && b.op.kind.acts) = false ∨ (q0 + r) ∈ qs)) := by
 intro seen
 induction seen with
 | nil => intro q0 _ r j b hr; simp at hr
 | cons x seen ih =>
  obtain ⟨j0, b0⟩ := x
  intro q0 h r j b hr
  simp only [okPair, Bool.and_eq_true] at h
  cases r with
  | zero =>
   simp only [List.getElem?_cons_zero, Option.some.injEq, Prod.mk.injEq] at hr
   obtain ⟨rfl, rfl⟩ := hr
   have h1 := h.1
   simp only [Bool.or_eq_true, Bool.and_eq_true, Bool.not_eq_true'] at h1
   rcases h1 with h1 | h1
   ·exact .inl h1
   ·refine .inr ⟨h1.1.1, h1.1.2, ?_⟩
    rcases h1.2 with h2 | h2
    ·exact .inl h2
    ·exact .inr (by simpa using h2)
  | succ r =>
   simp only [List.getElem?_cons_succ] at hr
   have := ih h.2 r j b hr
   rwa [show q0 + 1 + r = q0 + (r + 1) by omega] at this
theorem lookup_mem {ms : List (Nat × Nat)} {j m : Nat} (h : ms.lookup j = some m) : (j, m) ∈ ms := by
 induction ms with
 | nil => simp at h
 | cons x ms ih =>
  obtain ⟨a, b⟩ := x
  simp only [List.lookup_cons] at h
  split at h
  ·rename_i hq
   simp only [Option.some.injEq] at h
   rw [← h, eq_of_beq hq]; simp
  ·exact List.mem_cons_of_mem _ (ih h)
theorem maskOf_spec {ms : List (Nat × Nat)} : ∀ {es : List Edge} {m : Nat}, maskOf ms es = some m →
  (∀ e ∈ es, binds e = true → ∃ m', (e.on, m') ∈ ms) ∧
  ∀ j, m.testBit j = true → ∃ e ∈ es, binds e = true ∧ (j = e.on ∨ ∃ m', (e.on, m') ∈ ms ∧ m'.testBit j = true) := by
 intro es
 induction es with
 | nil => intro m h; simp only [maskOf, Option.some.injEq] at h; subst h; simp
 | cons e es ih =>
  intro m h
  simp only [maskOf] at h
  split at h <;> (try (simp at h; done))
  rename_i m0 hm0
  obtain ⟨i1, i2⟩ := ih hm0
  split at h
  ·rename_i hb
   split at h <;> simp at h
   rename_i m1 hl; subst h
   have hmem := lookup_mem hl
   refine ⟨fun e' he' hb' => ?_, fun j hj => ?_⟩
   ·rcases List.mem_cons.1 he' with rfl | he'
    ·exact ⟨m1, hmem⟩
    ·exact i1 e' he' hb'
   ·simp only [Nat.testBit_or, Bool.or_eq_true] at hj
    rcases hj with (hj | hj) | hj
    ·obtain ⟨e', h1, h2, h3⟩ := i2 j hj
     exact ⟨e', List.mem_cons_of_mem _ h1, h2, h3⟩
    ·exact ⟨e, by simp, hb, .inr ⟨m1, hmem, hj⟩⟩
    ·rw [Nat.testBit_two_pow] at hj
     exact ⟨e, by simp, hb, .inl (by simpa using (of_decide_eq_true hj).symm)⟩
  ·rename_i hb
   simp only [Option.some.injEq] at h; subst h
   refine ⟨fun e' he' hb' => ?_, fun j hj => ?_⟩
   ·rcases List.mem_cons.1 he' with rfl | he'
    ·exact absurd hb' hb
    ·exact i1 e' he' hb'
   ·obtain ⟨e', h1, h2, h3⟩ := i2 j hj
    exact ⟨e', List.mem_cons_of_mem _ h1, h2, h3⟩
theorem cD_spec {nt : Nat} {ops : Array Oper} : ∀ (is : List Nat) (hs : List (Opr × List Nat)) (seen : List (Nat × Opr)) (ms : List (Nat × Nat)) (os : List (Opr × List Nat)),
  cD P nt ops is hs seen ms = some os → os.length = is.length ∧ ∃ mk : List Nat, mk.length = is.length ∧ ∀ k i, is[k]? = some i →
   ∃ o a qs m, ops[i]? = some o ∧ cOper P nt ops o = some a ∧ os[k]? = some (a, qs) ∧ mk[k]? = some m ∧
    maskOf (((is.take k).zip (mk.take k)).reverse ++ ms) o.after.toList = some m ∧
    okPair m a qs 0 (((is.take k).zip ((os.take k).map (·.1))).reverse ++ seen) = true ∧ i ∉ is.take k ∧ i ∉ ms.map (·.1) := by
 intro is
 induction is with
 | nil =>
  intro hs seen ms os h
  cases hs <;> simp [cD] at h
  subst h
  exact ⟨rfl, [], rfl, by simp⟩
 | cons i is ih =>
  intro hs seen ms os h
  cases hs with
  | nil => simp [cD] at h
  | cons x hs =>
   obtain ⟨x1, qs⟩ := x
   simp only [cD] at h
   split at h <;> (try (simp at h; done))
   rename_i o ho
   split at h <;> (try (simp at h; done))
   rename_i m a hm ha
   split at h <;> (try (simp at h; done))
   rename_i hc
   simp only [Bool.and_eq_true, Bool.not_eq_true'] at hc
   simp only [Option.map_eq_some_iff] at h
   obtain ⟨os', h1, rfl⟩ := h
   obtain ⟨l1, mk, l2, l3⟩ := ih hs _ _ os' h1
   have hni : i ∉ ms.map (·.1) := by
    intro hmem
    have : (ms.map (·.1)).contains i = true := by simpa using hmem
    rw [hc.1] at this; simp at this
   refine ⟨by simp [l1], m :: mk, by simp [l2], ?_⟩
   intro k j hk
   cases k with
   | zero =>
    simp only [List.getElem?_cons_zero, Option.some.injEq] at hk; subst hk
    exact ⟨o, a, qs, m, ho, ha, by simp, by simp, by simpa using hm, by simpa using hc.2, by simp, hni⟩
   | succ k =>
    simp only [List.getElem?_cons_succ] at hk
    obtain ⟨o', a', qs', m', e1, e2, e3, e4, e5, e6, e7, e8⟩ := l3 k j hk
    refine ⟨o', a', qs', m', e1, e2, by simpa using e3, by simpa using e4, ?_, ?_, ?_, ?_⟩
    ·simpa using e5
    ·simpa using e6
    ·simp only [List.take_succ_cons, List.mem_cons, not_or]
     refine ⟨fun he => e8 (by simp [he]), e7⟩
    ·exact fun hmem => e8 (by simp at hmem ⊢; exact .inr hmem)
end Go.Am
namespace Go.Am
variable {P : Program} {M : Mp}
def exOf : Ex → Exit
 | .normal => .normal
 | .exit id => .exit id
 | .ret => .ret
def Tells (wp : (Exit → Act → World → Prop) → Act → World → Prop) (nt : Nat) (tm : Tm) (s : S) (ex : Ex) (tm' : Tm) (s' : S) : Prop :=
 Grows s s' ∧ ∀ (M : Mp) (w : World) (a : Act), Rel M s.h.get w → Fresh M s.n s'.n → TmRel M tm a nt → ∀ (Q : Exit → Act → World → Prop),
  (∀ a' w' M', TmRel M' tm' a' nt → a'.defers = a.defers → Rel M' s'.h.get w' → Ext M M' s.h.get s'.h.get s.n s'.n w w' → Q (exOf ex) a' w') → wp Q a w
structure Plan (P : Program) (nt : Nat) (ops : Array Oper) (n : Nat) (idx : Nat → Nat) (aop : Nat → Opr) (qsf : Nat → List Nat) (msk : Nat → Nat) : Prop where
 oper : ∀ p, p < n → ∃ o, ops[idx p]? = some o ∧ cOper P nt ops o = some (aop p) ∧ (∀ e ∈ o.after.toList, binds e = true → ∃ q, q < p ∧ idx q = e.on) ∧
  (∀ j, (msk p).testBit j = true → ∃ e ∈ o.after.toList, binds e = true ∧ (j = e.on ∨ ∃ q, q < p ∧ idx q = e.on ∧ (msk q).testBit j = true))
 pair : ∀ p q, q < p → p < n → (msk p).testBit (idx q) = true ∨
  (apart (aop q) (aop p) = true ∧ (aop p).op.kind.loud = false ∧ (((aop p).op.kind.reads && (aop q).op.kind.acts) = false ∨ (p - 1 - q) ∈ qsf p))
 inj : ∀ p q, p < n → q < n → idx p = idx q → p = q
 sur : ∀ i, i < ops.size → ∃ p, p < n ∧ idx p = i
 lt : ∀ p, p < n → idx p < ops.size
theorem plan_of {nt : Nat} {ops : Array Oper} {perm : List Nat} {hs os : List (Opr × List Nat)} (hall : (List.range ops.size).all perm.contains = true)
  (h : cD P nt ops perm hs [] [] = some os) : os.length = perm.length ∧ ∃ (aop : Nat → Opr) (qsf : Nat → List Nat) (msk : Nat → Nat),
   Plan P nt ops perm.length (fun p => perm.getD p 0) aop qsf msk ∧ ∀ p, p < perm.length → os[p]? = some (aop p, qsf p) := by
 obtain ⟨l1, mk, l2, l3⟩ := cD_spec perm hs [] [] os h
 refine ⟨l1, fun p => (os.getD p (⟨none, none, .mkmap⟩, [])).1, fun p => (os.getD p (⟨none, none, .mkmap⟩, [])).2, fun p => mk.getD p 0, ?_, ?_⟩
 rotate_left
 ·intro p hp
  simp [List.getD, List.getElem?_eq_getElem (show p < os.length by omega)]
 have hidx : ∀ p, p < perm.length → perm[p]? = some (perm.getD p 0) := fun p hp => by simp [List.getD, hp]
 have hos : ∀ p a qs, os[p]? = some (a, qs) → (os.getD p (⟨none, none, .mkmap⟩, [])).1 = a ∧ (os.getD p (⟨none, none, .mkmap⟩, [])).2 = qs := by
  intro p a qs hp; simp [List.getD, hp]
 have hmk : ∀ p m, mk[p]? = some m → mk.getD p 0 = m := by intro p m hp; simp [List.getD, hp]
 have hmem : ∀ k j m, k ≤ perm.length → (j, m) ∈ ((perm.take k).zip (mk.take k)).reverse ++ ([] : List (Nat × Nat)) → ∃ q, q < k ∧ perm.getD q 0 = j ∧ mk.getD q 0 = m := by
  intro k j m hk hm
  rw [List.append_nil, List.mem_reverse] at hm
  obtain ⟨q, hq⟩ := List.mem_iff_getElem?.1 hm
  rw [List.getElem?_zip_eq_some] at hq
  obtain ⟨h1, h2⟩ := hq
  have hqk : q < k := by
   have := (List.getElem?_eq_some_iff.1 h1).1
   simp at this; omega
  rw [List.getElem?_take_of_lt hqk] at h1 h2
  exact ⟨q, hqk, by simp [List.getD, h1], hmk q m h2⟩
 refine ⟨?_, ?_, ?_, ?_, ?_⟩
 ·intro p hp
  obtain ⟨o, a, qs, m, e1, e2, e3, e4, e5, e6, e7, e8⟩ := l3 p _ (hidx p hp)
  obtain ⟨s1, s2⟩ := maskOf_spec e5
  refine ⟨o, e1, by rw [(hos p a qs e3).1]; exact e2, fun e he hb => ?_, fun j hj => ?_⟩
  ·obtain ⟨m', hm'⟩ := s1 e he hb
   obtain ⟨q, q1, q2, _⟩ := hmem p _ _ (by omega) hm'
   exact ⟨q, q1, q2⟩
  ·rw [hmk p m e4] at hj
   obtain ⟨e, he, hb, h1 | ⟨m', hm', hbit⟩⟩ := s2 j hj
   ·exact ⟨e, he, hb, .inl h1⟩
   ·obtain ⟨q, q1, q2, q3⟩ := hmem p _ _ (by omega) hm'
    exact ⟨e, he, hb, .inr ⟨q, q1, q2, by rw [q3]; exact hbit⟩⟩
 ·intro p q hqp hp
  obtain ⟨o, a, qs, m, e1, e2, e3, e4, e5, e6, e7, e8⟩ := l3 p _ (hidx p hp)
  rw [hmk p m e4, (hos p a qs e3).1, (hos p a qs e3).2]
  have hq : q < perm.length := by omega
  obtain ⟨oq, aq, qsq, mq, _, _, f3, _⟩ := l3 q _ (hidx q hq)
  rw [(hos q aq qsq f3).1]
  rw [List.append_nil] at e6
  have hseen : (((perm.take p).zip ((os.take p).map (·.1))).reverse)[p - 1 - q]? = some (perm.getD q 0, aq) := by
   have hzl : ((perm.take p).zip ((os.take p).map (·.1))).length = p := by simp; omega
   rw [List.getElem?_reverse (by omega), hzl, show p - 1 - (p - 1 - q) = q by omega, List.getElem?_zip_eq_some]
   refine ⟨by rw [List.getElem?_take_of_lt hqp]; exact hidx q hq, ?_⟩
   rw [List.getElem?_map, List.getElem?_take_of_lt hqp, f3]; rfl
  have := okPair_spec e6 (p - 1 - q) _ _ hseen
  simpa using this
 ·have aux : ∀ p q, p < q → q < perm.length → perm.getD p 0 ≠ perm.getD q 0 := by
   intro p q hpq hq he
   obtain ⟨o, a, qs, m, _, _, _, _, _, _, e7, _⟩ := l3 q _ (hidx q hq)
   refine e7 ?_
   rw [← he]
   rw [List.mem_iff_getElem?]
   exact ⟨p, by rw [List.getElem?_take_of_lt hpq]; exact hidx p (by omega)⟩
  intro p q hp hq he
  rcases Nat.lt_trichotomy p q with h | h | h
  ·exact absurd he (aux p q h hq)
  ·exact h
  ·exact absurd he.symm (aux q p h hp)
 ·intro i hi
  have := List.all_eq_true.1 hall i (by simp [hi])
  have hm : i ∈ perm := by simpa using this
  obtain ⟨p, hp⟩ := List.mem_iff_getElem?.1 hm
  have hpl := (List.getElem?_eq_some_iff.1 hp).1
  exact ⟨p, hpl, by simp [List.getD, hp]⟩
 ·intro p hp
  obtain ⟨o, _, _, _, e1, _⟩ := l3 p _ (hidx p hp)
  exact (Array.getElem?_eq_some_iff.1 e1).1
section sel
variable (T0 : Nat → V) (aop : Nat → Opr) (vv : Nat → V) (σ : Nat → S) (nw : Nat → Bool)
def tsel (sel : Nat → Bool) : Nat → Nat → V
 | 0, t => T0 t
 | p + 1, t => if sel p = true ∧ (aop p).dst = some t then vv p else tsel sel p t
theorem tsel_congr {sel sel' : Nat → Bool} {t : Nat} : ∀ k, (∀ q, q < k → (aop q).dst = some t → sel q = sel' q) → tsel T0 aop vv sel k t = tsel T0 aop vv sel' k t := by
 intro k
 induction k with
 | zero => intro _; rfl
 | succ k ih =>
  intro h
  simp only [tsel]
  rw [ih fun q hq => h q (by omega)]
  by_cases hd : (aop k).dst = some t
  ·rw [h k (by omega) hd]
  ·simp [hd]
theorem tsel_above {sel : Nat → Bool} {t p : Nat} : ∀ k, p ≤ k → (∀ q, p ≤ q → q < k → sel q = true → (aop q).dst ≠ some t) → tsel T0 aop vv sel k t = tsel T0 aop vv sel p t := by
 intro k
 induction k with
 | zero => intro h _; obtain rfl : p = 0 := by omega
           rfl
 | succ k ih =>
  intro h hq
  by_cases hpk : p = k + 1
  ·rw [hpk]
  ·simp only [tsel]
   rw [if_neg (fun hc => hq k (by omega) (by omega) hc.1 hc.2)]
   exact ih (by omega) fun q h1 h2 => hq q h1 (by omega)
noncomputable def hsel (sel : Nat → Bool) (m : Nat) : Nat → Nat → Option Ob
 | 0, id => (σ m).h.get id
 | q + 1, id => if m ≤ q ∧ sel q = true ∧ nw q = true ∧ (σ q).n = id then (σ (q + 1)).h.get id else hsel sel m q id
theorem hsel_le {sel : Nat → Bool} {m id : Nat} : ∀ k, k ≤ m → hsel σ nw sel m k id = (σ m).h.get id := by
 intro k
 induction k with
 | zero => intro _; rfl
 | succ k ih => intro h; simp only [hsel]; rw [if_neg (by omega)]; exact ih (by omega)
theorem hsel_none {sel : Nat → Bool} {m id : Nat} : ∀ k, (∀ q, m ≤ q → q < k → sel q = true → nw q = true → (σ q).n ≠ id) → hsel σ nw sel m k id = (σ m).h.get id := by
 intro k
 induction k with
 | zero => intro _; rfl
 | succ k ih =>
  intro h
  simp only [hsel]
  rw [if_neg (fun hc => h k hc.1 (by omega) hc.2.1 hc.2.2.1 hc.2.2.2)]
  exact ih fun q h1 h2 => h q h1 (by omega)
theorem hsel_at {sel : Nat → Bool} {m id q0 : Nat} : ∀ k, q0 < k → m ≤ q0 → sel q0 = true → nw q0 = true → (σ q0).n = id →
  (∀ q, q0 < q → q < k → nw q = true → (σ q).n ≠ id) → hsel σ nw sel m k id = (σ (q0 + 1)).h.get id := by
 intro k
 induction k with
 | zero => intro h; omega
 | succ k ih =>
  intro h0 h1 h2 h3 h4 h5
  simp only [hsel]
  by_cases hk : q0 = k
  ·subst hk; rw [if_pos ⟨h1, h2, h3, h4⟩]
  ·rw [if_neg (fun hc => h5 k (by omega) (by omega) hc.2.2.1 hc.2.2.2)]
   exact ih (by omega) h1 h2 h3 h4 fun q a b => h5 q a (by omega)
end sel
theorem apart_spec {a b : Opr} (h : apart a b = true) : (∀ d, a.dst = some d → d ∉ b.uses ∧ b.dst ≠ some d) ∧ ∀ d, b.dst = some d → d ∉ a.uses := by
 simp only [apart, Bool.and_eq_true] at h
 refine ⟨fun d hd => ?_, fun d hd => ?_⟩
 ·have := h.1; rw [hd] at this; simpa using this
 ·have := h.2; rw [hd] at this; simpa using this
end Go.Am
namespace Go.Am
variable {P : Program} {M : Mp}
theorem binds_any (e : Edge) : Region.binds .any e = binds e := by
 obtain ⟨on, g⟩ := e
 cases g <;> rfl
structure Trc (P : Program) (nt : Nat) (ops : Array Oper) (n : Nat) (idx : Nat → Nat) (aop : Nat → Opr) (qsf : Nat → List Nat) (msk : Nat → Nat)
  (T : Nat → Tm) (σ : Nat → S) (vv : Nat → V) : Prop where
 plan : Plan P nt ops n idx aop qsf msk
 step : ∀ p, p < n → StepAt P T σ vv [] p (aop p) (qsf p)
 wf : WF (σ 0)
noncomputable def isNew (T : Nat → Tm) (aop : Nat → Opr) (q : Nat) : Bool :=
 match (aop q).op.kind with
 | .new => wanted (T q) (aop q).g
 | _ => false
section
variable {nt : Nat} {ops : Array Oper} {n : Nat} {idx : Nat → Nat} {aop : Nat → Opr} {qsf : Nat → List Nat} {msk : Nat → Nat} {T : Nat → Tm} {σ : Nat → S} {vv : Nat → V}
theorem Trc.grow1 (H : Trc P nt ops n idx aop qsf msk T σ vv) : ∀ p, p < n → WF (σ p) → Grows (σ p) (σ (p + 1)) := by
 intro p hp hw
 obtain ⟨o, _, ho, _⟩ := H.plan.oper p hp
 rcases (H.step p hp).st with ⟨_, ⟨call, hcall, hex⟩, _⟩ | ⟨_, _, he⟩
 ·exact (op_sound hcall (cOper_some ho).2.1 hex hw).1
 ·rw [he]; exact .refl hw
theorem Trc.wfAt (H : Trc P nt ops n idx aop qsf msk T σ vv) : ∀ p, p ≤ n → WF (σ p) := by
 intro p
 induction p with
 | zero => intro _; exact H.wf
 | succ p ih => intro h; exact (H.grow1 p (by omega) (ih (by omega))).wf
theorem Trc.grow (H : Trc P nt ops n idx aop qsf msk T σ vv) {p : Nat} : ∀ q, p ≤ q → q ≤ n → Grows (σ p) (σ q) := by
 intro q
 induction q with
 | zero => intro h hq; obtain rfl : p = 0 := by omega
           exact .refl H.wf
 | succ q ih =>
  intro h hq
  by_cases hpq : p = q + 1
  ·rw [hpq]; exact .refl (H.wfAt _ hq)
  ·exact (ih (by omega) (by omega)).trans (H.grow1 q (by omega) (H.wfAt q (by omega)))
theorem Trc.quiet (H : Trc P nt ops n idx aop qsf msk T σ vv) {p : Nat} (hp : p < n) (hl : (aop p).op.kind.loud = false) :
  (isNew T aop p = false ∧ σ (p + 1) = σ p) ∨ (isNew T aop p = true ∧ ∃ ob, newOp (T p) (aop p).op (σ p).n = some (vv p, ob) ∧ σ (p + 1) = ⟨(σ p).h.set (σ p).n ob, (σ p).n + 1⟩) := by
 rcases (H.step p hp).st with ⟨hw, ⟨_call, _hcall, hex⟩, _⟩ | ⟨hw, _, he⟩
 ·unfold Am.execOp at hex
  unfold isNew
  split at hex
  ·rename_i hk
   split at hex <;> simp at hex
   exact .inl ⟨by rw [hk], hex.2.symm⟩
  ·rename_i hk
   split at hex <;> simp at hex
   rename_i v ob hn
   refine .inr ⟨by rw [hk]; exact hw, ob, by rw [hn, hex.1], hex.2.symm⟩
  ·rename_i hk
   split at hex <;> simp at hex
   exact .inl ⟨by rw [hk], hex.2.symm⟩
  ·rename_i hk; rw [hk] at hl; simp [Kind.loud] at hl
  ·rename_i hk; rw [hk] at hl; simp [Kind.loud] at hl
 ·refine .inl ⟨?_, he⟩
  unfold isNew
  split
  ·exact hw
  ·rfl
theorem Trc.tms (H : Trc P nt ops n idx aop qsf msk T σ vv) (t : Nat) : ∀ p, p ≤ n → (T p).at_ t = tsel (T 0).at_ aop vv (fun _ => true) p t := by
 intro p
 induction p with
 | zero => intro _; rfl
 | succ p ih =>
  intro h
  rw [(H.step p (by omega)).tm]
  simp only [tsel, true_and]
  cases hd : (aop p).dst with
  | none => simp only [put, reduceCtorEq, if_false]; exact ih (by omega)
  | some d =>
   simp only [put, at_set, Option.some.injEq]
   by_cases ht : t = d
   ·rw [if_pos ht, if_pos ht.symm]
   ·rw [if_neg ht, if_neg (Ne.symm ht)]; exact ih (by omega)
structure Next (aop : Nat → Opr) (qsf : Nat → List Nat) (n p : Nat) (sel : Nat → Bool) : Prop where
 not : sel p = false
 before : ∀ q, q < p → sel q = false → apart (aop q) (aop p) = true ∧ (aop p).op.kind.loud = false ∧ (((aop p).op.kind.reads && (aop q).op.kind.acts) = false ∨ (p - 1 - q) ∈ qsf p)
 behind : ∀ q, p < q → q < n → sel q = true → apart (aop p) (aop q) = true ∧ (aop q).op.kind.loud = false
def sel1 (sel : Nat → Bool) (p : Nat) : Nat → Bool := fun q => decide (q = p) || sel q
theorem sel1_self (sel : Nat → Bool) (p : Nat) : sel1 sel p p = true := by simp [sel1]
theorem sel1_ne (sel : Nat → Bool) {p q : Nat} (h : q ≠ p) : sel1 sel p q = sel q := by simp [sel1, h]
theorem Trc.slot (H : Trc P nt ops n idx aop qsf msk T σ vv) {p : Nat} (hp : p < n) {sel : Nat → Bool} (hn : Next aop qsf n p sel) {t : Nat} (ht : t ∈ (aop p).uses) :
  tsel (T 0).at_ aop vv sel n t = (T p).at_ t := by
 rw [H.tms t p (by omega)]
 rw [tsel_above (T0 := (T 0).at_) (aop := aop) (vv := vv) (p := p) n (by omega)]
 ·refine tsel_congr _ _ _ p fun q hq hd => ?_
  cases hs : sel q with
  | true => rfl
  | false => exact absurd ht ((apart_spec (hn.before q hq hs).1).1 t hd).1
 ·intro q h1 h2 h3 h4
  have hpq : p ≠ q := fun he => by have := hn.not; rw [he, h3] at this; simp at this
  exact (apart_spec (hn.behind q (by omega) h2 h3).1).2 t h4 ht
theorem Trc.slots (H : Trc P nt ops n idx aop qsf msk T σ vv) {p : Nat} (hp : p < n) {sel : Nat → Bool} (hn : Next aop qsf n p sel) {a : Act}
  (ha : ∀ t, Rv M (tsel (T 0).at_ aop vv sel n t) (a.tmps.getD t undef)) : Look M (T p) a (aop p).uses := by
 intro t ht
 rw [← H.slot hp hn ht]
 exact ha t
theorem Trc.fill (_H : Trc P nt ops n idx aop qsf msk T σ vv) {p : Nat} (hp : p < n) {sel : Nat → Bool} (hn : Next aop qsf n p sel) {a : Act}
  (hnt : nt ≤ a.tmps.size) (hd : ∀ d, (aop p).dst = some d → d < nt)
  (ha : ∀ t, Rv M (tsel (T 0).at_ aop vv sel n t) (a.tmps.getD t undef)) {M' : Mp} (hle : M.Le M') {v' : Value} (hv : Rv M' (vv p) v') :
  nt ≤ (a.put (aop p).dst v').tmps.size ∧ ∀ t, Rv M' (tsel (T 0).at_ aop vv (sel1 sel p) n t) ((a.put (aop p).dst v').tmps.getD t undef) := by
 have hother : ∀ t, (aop p).dst ≠ some t → tsel (T 0).at_ aop vv (sel1 sel p) n t = tsel (T 0).at_ aop vv sel n t := by
  intro t ht
  refine tsel_congr _ _ _ n fun q hq hdq => sel1_ne sel fun he => ?_
  rw [he] at hdq; exact ht hdq
 cases hdst : (aop p).dst with
 | none => exact ⟨hnt, fun t => by rw [hother t (by rw [hdst]; simp)]; exact (ha t).mono hle⟩
 | some d =>
  have hlt := hd d hdst
  refine ⟨by simp [Act.put]; exact hnt, fun t => ?_⟩
  simp only [Act.put]
  by_cases ht : t = d
  ·subst ht
   have : t < a.tmps.size := Nat.lt_of_lt_of_le hlt hnt
   have e1 : tsel (T 0).at_ aop vv (sel1 sel p) n t = vv p := by
    rw [tsel_above (T0 := (T 0).at_) (aop := aop) (vv := vv) (p := p + 1) n (by omega)]
    ·simp only [tsel]; rw [if_pos ⟨sel1_self sel p, hdst⟩]
    ·intro q h1 h2 h3
     rw [sel1_ne sel (by omega)] at h3
     exact ((apart_spec (hn.behind q (by omega) h2 h3).1).1 t hdst).2
   rw [e1]
   simp [Array.getD_eq_getD_getElem?, this, hv]
  ·rw [hother t (by rw [hdst]; simpa using Ne.symm ht)]
   have := (ha t).mono hle
   simpa [Array.getD_eq_getD_getElem?, Array.getElem?_setIfInBounds_ne (Ne.symm ht)] using this
theorem Trc.newlt (H : Trc P nt ops n idx aop qsf msk T σ vv) {q k : Nat} (hqk : q < k) (hk : k ≤ n) (hq : isNew T aop q = true) : (σ q).n < (σ k).n := by
 have hl : (aop q).op.kind.loud = false := by
  unfold isNew at hq
  split at hq
  ·rename_i hk; rw [hk]; rfl
  ·simp at hq
 rcases H.quiet (by omega) hl with ⟨h1, _⟩ | ⟨_, ob, _, he⟩
 ·rw [hq] at h1; simp at h1
 ·have := (H.grow k (by omega : q + 1 ≤ k) hk).n
  rw [he] at this
  simp at this; omega
theorem Trc.shift1 (H : Trc P nt ops n idx aop qsf msk T σ vv) {m : Nat} (hm : m < n) (hl : (aop m).op.kind.loud = false) {sel : Nat → Bool} (hs : sel m = true) (id : Nat) :
  ∀ k, m + 1 ≤ k → k ≤ n → hsel σ (isNew T aop) sel (m + 1) k id = hsel σ (isNew T aop) sel m k id := by
 intro k
 induction k with
 | zero => intro h; omega
 | succ k ih =>
  intro h hk
  by_cases hmk : m = k
  ·subst hmk
   rw [hsel_le σ (isNew T aop) (m + 1) (Nat.le_refl _)]
   simp only [hsel]
   rw [hsel_le σ (isNew T aop) m (Nat.le_refl _)]
   split
   ·rfl
   ·rename_i hc
    rcases H.quiet hm hl with ⟨_, he⟩ | ⟨hw, ob, _, he⟩
    ·rw [he]
    ·rw [he]
     simp only
     rw [Tr.get_set, if_neg (fun hid => hc ⟨Nat.le_refl _, hs, hw, hid.symm⟩)]
  ·simp only [hsel]
   rw [ih (by omega) (by omega)]
   by_cases hc : sel k = true ∧ isNew T aop k = true ∧ (σ k).n = id
   ·rw [if_pos ⟨by omega, hc⟩, if_pos ⟨by omega, hc⟩]
   ·rw [if_neg (fun h => hc h.2), if_neg (fun h => hc h.2)]
theorem Trc.shift (H : Trc P nt ops n idx aop qsf msk T σ vv) {m : Nat} {sel : Nat → Bool} (id : Nat) : ∀ m', m ≤ m' → m' ≤ n →
  (∀ q, m ≤ q → q < m' → sel q = true ∧ (aop q).op.kind.loud = false) → hsel σ (isNew T aop) sel m' n id = hsel σ (isNew T aop) sel m n id := by
 intro m'
 induction m' with
 | zero => intro h _ _; obtain rfl : m = 0 := by omega
           rfl
 | succ m' ih =>
  intro h h1 h2
  by_cases hmm : m = m' + 1
  ·rw [hmm]
  ·obtain ⟨g1, g2⟩ := h2 m' (by omega) (by omega)
   rw [H.shift1 (by omega) g2 g1 id n (by omega) (Nat.le_refl _)]
   exact ih (by omega) (by omega) fun q a b => h2 q a (by omega)
theorem hsel_congr {nw : Nat → Bool} {sel sel' : Nat → Bool} {m id : Nat} : ∀ k, (∀ q, m ≤ q → q < k → nw q = true → (σ q).n = id → sel q = sel' q) → hsel σ nw sel m k id = hsel σ nw sel' m k id := by
 intro k
 induction k with
 | zero => intro _; rfl
 | succ k ih =>
  intro h
  simp only [hsel]
  rw [ih fun q h1 h2 => h q h1 (by omega)]
  by_cases hc : m ≤ k ∧ nw k = true ∧ (σ k).n = id
  ·rw [h k hc.1 (by omega) hc.2.1 hc.2.2]
  ·rw [if_neg (fun h => hc ⟨h.1, h.2.2⟩), if_neg (fun h => hc ⟨h.1, h.2.2⟩)]
theorem Trc.down (H : Trc P nt ops n idx aop qsf msk T σ vv) {p : Nat} (hp : p < n) {sel : Nat → Bool} (hn : Next aop qsf n p sel) (hk : (aop p).op.kind = .read)
  (hread : readOp (T p) (aop p).op (σ p).h = some (vv p)) (hal : allowed (T p) (aop p).op (vv p) (recsOf σ p ++ []) (qsf p) = true) {id : Nat} (hid : readRow (T p) (aop p).op = some id)
  {m : Nat} (hsel : ∀ q, m ≤ q → q < p → sel q = true → (aop q).op.kind.loud = false) {k0 : Nat} (hmk : m ≤ k0)
  (hno : ∀ q, k0 ≤ q → q < p → sel q = true → isNew T aop q = true → (σ q).n ≠ id) : ∀ d, k0 + d ≤ p → readOp (T p) (aop p).op (σ (p - d)).h = some (vv p) := by
 intro d
 induction d with
 | zero => intro _; exact hread
 | succ d ih =>
  intro hd
  have h1 := ih (by omega)
  generalize hk1 : p - (d + 1) = k
  have hk2 : p - d = k + 1 := by omega
  rw [hk2] at h1
  have hkp : k < p := by omega
  have hin : id < (σ (k + 1)).n := by
   rcases Nat.lt_or_ge id (σ (k + 1)).n with hc | hc
   ·exact hc
   ·rw [readOp_nil hid (H.wfAt (k + 1) (by omega) id hc)] at h1; simp at h1
  have hstay : σ (k + 1) = σ k → readOp (T p) (aop p).op (σ k).h = some (vv p) := fun he => by rw [← he]; exact h1
  cases hs : sel k with
  | true =>
   rcases H.quiet (by omega) (hsel k (by omega) hkp hs) with ⟨_, he⟩ | ⟨hw, ob, _, he⟩
   ·exact hstay he
   ·rw [← h1, he]
    refine readOp_row fun i hi => ?_
    rw [hid] at hi
    simp only [Option.some.injEq] at hi; subst hi
    simp only
    rw [Tr.get_set, if_neg (Ne.symm (hno k (by omega) hkp hs hw))]
  | false =>
   obtain ⟨_, _, h3⟩ := hn.before k hkp hs
   rcases h3 with h3 | h3
   ·rw [hk] at h3
    simp only [Kind.reads, Bool.true_and] at h3
    have hl : (aop k).op.kind.loud = false := by
     revert h3
     cases (aop k).op.kind <;> simp [Kind.acts, Kind.loud]
    rcases H.quiet (by omega) hl with ⟨_, he⟩ | ⟨hw, _⟩
    ·exact hstay he
    ·unfold isNew at hw
     revert h3 hw
     cases (aop k).op.kind <;> simp [Kind.acts]
   ·unfold allowed at hal
    rw [hid] at hal
    simp only at hal
    obtain ⟨sb, sa, e1, e2⟩ := sameRead_spec hal _ h3
    rw [List.append_nil, recsOf_get σ p k hkp] at e1
    simp only [Option.some.injEq, Prod.mk.injEq] at e1
    obtain ⟨rfl, rfl⟩ := e1
    rcases e2 with e2 | e2
    ·omega
    ·exact e2.1
theorem Trc.readAt (H : Trc P nt ops n idx aop qsf msk T σ vv) {p : Nat} (hp : p < n) {sel : Nat → Bool} (hn : Next aop qsf n p sel) (hk : (aop p).op.kind = .read)
  (hread : readOp (T p) (aop p).op (σ p).h = some (vv p)) (hal : allowed (T p) (aop p).op (vv p) (recsOf σ p ++ []) (qsf p) = true)
  {m : Nat} (hmp : m ≤ p) (hqt : ∀ q, m ≤ q → q < n → sel q = true → (aop q).op.kind.loud = false) :
  ∃ τ : Heap, Part τ.get (hsel σ (isNew T aop) sel m n) ∧ readOp (T p) (aop p).op τ = some (vv p) := by
 cases hid : readRow (T p) (aop p).op with
 | none =>
  refine ⟨.nil, fun i hi => absurd (by simp) hi, ?_⟩
  rw [← hread]
  exact readOp_row fun i hi => by rw [hid] at hi; simp at hi
 | some id =>
  have key : ∀ k, k ≤ p → readOp (T p) (aop p).op (σ k).h = some (vv p) → hsel σ (isNew T aop) sel m n id = (σ k).h.get id →
    ∃ τ : Heap, Part τ.get (hsel σ (isNew T aop) sel m n) ∧ readOp (T p) (aop p).op τ = some (vv p) := by
   intro k _ hr he
   cases hob : (σ k).h.get id with
   | none => rw [readOp_nil hid hob] at hr; simp at hr
   | some ob =>
    refine ⟨Tr.nil.set id ob, fun i hi => ?_, ?_⟩
    ·rw [Tr.get_set] at hi ⊢
     split
     ·rename_i h; rw [h, he, hob]
     ·rename_i h; rw [if_neg h] at hi; exact absurd (by simp) hi
    ·rw [← hr]
     refine readOp_row fun i hi => ?_
     rw [hid] at hi
     simp only [Option.some.injEq] at hi; subst hi
     rw [Tr.get_set, if_pos rfl, hob]
  have hrn : ∀ k, k ≤ n → readOp (T p) (aop p).op (σ k).h = some (vv p) → id < (σ k).n := fun k hk hr => by
   rcases Nat.lt_or_ge id (σ k).n with hc | hc
   ·exact hc
   ·rw [readOp_nil hid (H.wfAt k hk id hc)] at hr; simp at hr
  by_cases hex : ∃ q, m ≤ q ∧ q < n ∧ sel q = true ∧ isNew T aop q = true ∧ (σ q).n = id
  ·obtain ⟨q, q1, q2, q3, q4, q5⟩ := hex
   have hqp : q < p := by
    rcases Nat.lt_or_ge q p with hc | hc
    ·exact hc
    ·have := hrn p (by omega) hread
     have := (H.grow q hc (by omega)).n
     omega
   refine key (q + 1) hqp ?_ ?_
   ·have := H.down hp hn hk hread hal hid (m := m) (fun q a b => hqt q a (by omega)) (k0 := q + 1) (by omega) (fun k k1 k2 k3 k4 => ?_) (p - (q + 1)) (by omega)
    ·rwa [show p - (p - (q + 1)) = q + 1 by omega] at this
    ·have := H.newlt (q := q) (k := k) (by omega) (by omega) q4
     omega
   ·exact hsel_at σ (isNew T aop) n q2 q1 q3 q4 q5 fun k k1 k2 k3 => by
     have := H.newlt (q := q) (k := k) k1 (by omega) q4
     omega
  ·refine key m hmp ?_ (hsel_none σ (isNew T aop) n fun q a b c d e => hex ⟨q, a, b, c, d, e⟩)
   have := H.down hp hn hk hread hal hid (m := m) (fun q a b => hqt q a (by omega)) (k0 := m) (Nat.le_refl _) (fun q a b c d e => hex ⟨q, a, by omega, c, d, e⟩) (p - m) (by omega)
   rwa [show p - (p - m) = m by omega] at this
structure DInv (P : Program) (nt : Nat) (n : Nat) (idx : Nat → Nat) (aop : Nat → Opr) (msk : Nat → Nat) (T : Nat → Tm) (σ : Nat → S) (vv : Nat → V) (M0 : Mp) (w0 : World) (a0 : Act)
  (listed : Array Bool) (sel : Nat → Bool) (m : Nat) (M : Mp) (a : Act) (w : World) : Prop where
 list : ∀ q, q < n → listed.getD (idx q) true = sel q ∧ listed.getD (idx q) false = sel q
 closed : ∀ q, q < n → sel q = true → ∀ j, (msk q).testBit j = true → listed.getD j false = true
 mle : m ≤ n
 below : ∀ q, q < m → sel q = true
 above : ∀ q, m ≤ q → q < n → sel q = true → (aop q).op.kind.loud = false
 size : nt ≤ a.tmps.size
 tmps : ∀ t, Rv M (tsel (T 0).at_ aop vv sel n t) (a.tmps.getD t undef)
 defers : a.defers = a0.defers
 rel : Rel M (hsel σ (isNew T aop) sel m n) w
 ext : Ext M0 M (σ 0).h.get (hsel σ (isNew T aop) sel m n) (σ 0).n (σ n).n w0 w
 fresh : ∀ id, (σ 0).n ≤ id → id < (σ n).n → hsel σ (isNew T aop) sel m n id = none → ∀ e, M.f id e = none
def cnt (sel : Nat → Bool) : Nat → Nat
 | 0 => 0
 | k + 1 => (bif sel k then 0 else 1) + cnt sel k
theorem cnt_sel1 {sel : Nat → Bool} {p : Nat} (hp : sel p = false) : ∀ k, cnt sel k = cnt (sel1 sel p) k + (if p < k then 1 else 0) := by
 intro k
 induction k with
 | zero => rfl
 | succ k ih =>
  simp only [cnt]
  by_cases hk : k = p
  ·subst hk
   rw [ih, sel1_self, hp, if_neg (by omega), if_pos (by omega)]; simp; omega
  ·rw [sel1_ne sel hk, ih]
   by_cases hpk : p < k
   ·rw [if_pos hpk, if_pos (by omega)]; omega
   ·rw [if_neg hpk, if_neg (by omega)]; rfl
theorem cnt_zero {sel : Nat → Bool} : ∀ k, cnt sel k = 0 → ∀ q, q < k → sel q = true := by
 intro k
 induction k with
 | zero => intro _ q h; omega
 | succ k ih =>
  intro h q hq
  simp only [cnt] at h
  by_cases hk : q = k
  ·subst hk
   cases hs : sel q with
   | true => rfl
   | false => rw [hs] at h; simp at h
  ·exact ih (by omega) q (by omega)
theorem cnt_none : ∀ k, cnt (fun _ => false) k = k := by
 intro k
 induction k with
 | zero => rfl
 | succ k ih => simp only [cnt, ih]; simp; omega
theorem DInv.step (H : Trc P nt ops n idx aop qsf msk T σ vv) {M0 : Mp} {w0 : World} {a0 : Act} (hf0 : Fresh M0 (σ 0).n (σ n).n) {listed : Array Bool} {sel : Nat → Bool} {m : Nat} {M : Mp}
  {a : Act} {w : World} (I : DInv P nt n idx aop msk T σ vv M0 w0 a0 listed sel m M a w) {p : Nat} (hp : p < n) (hr : idx p ∈ Region.ready .any ops listed) {Q : Exit → Act → World → Prop}
  {K : Act → World → Prop} (hK : ∀ m' M' a' w', DInv P nt n idx aop msk T σ vv M0 w0 a0 (listed.setIfInBounds (idx p) true) (sel1 sel p) m' M' a' w' → K a' w') : wpOp P ops Q (idx p) K a w := by
 obtain ⟨o, hoi, hoc, hbe, hbm⟩ := H.plan.oper p hp
 obtain ⟨c1, c2, c3, c4⟩ := cOper_some hoc
 have hsp : sel p = false := by
  rw [← (I.list p hp).1]; exact (mem_ready.1 hr).1
 have hready : ∀ e ∈ o.after.toList, binds e = true → listed.getD e.on false = true := by
  obtain ⟨_, o', ho', hall⟩ := mem_ready.1 hr
  rw [hoi] at ho'
  simp only [Option.some.injEq] at ho'; subst ho'
  intro e he hb
  exact hall e (by simpa using he) (by rw [binds_any]; exact hb)
 have hmask : ∀ j, (msk p).testBit j = true → listed.getD j false = true := by
  intro j hj
  obtain ⟨e, he, hb, h1 | ⟨q, q1, q2, q3⟩⟩ := hbm j hj
  ·rw [h1]; exact hready e he hb
  ·refine I.closed q (by omega) ?_ j q3
   rw [← (I.list q (by omega)).2, q2]; exact hready e he hb
 have hn : Next aop qsf n p sel := by
  refine ⟨hsp, fun q hq hs => ?_, fun q hq hqn hs => ?_⟩
  ·rcases H.plan.pair p q hq hp with h | h
   ·have := hmask _ h
    rw [(I.list q (by omega)).2, hs] at this; simp at this
   ·exact h
  ·rcases H.plan.pair q p hq hqn with h | h
   ·have := I.closed q hqn hs _ h
    rw [(I.list p hp).2, hsp] at this; simp at this
   ·exact ⟨h.1, h.2.1⟩
 have hmp : m ≤ p := by
  rcases Nat.lt_or_ge p m with h | h
  ·rw [I.below p h] at hsp; simp at hsp
  ·exact h
 have hLook := H.slots hp hn I.tmps
 have hlook : Look M (T p) a (aop p).op.uses := fun t ht => hLook t (by unfold Opr.uses; split <;> simp [ht])
 have hwant : Region.wanted o (yielded ops a.tmps) = wanted (T p) (aop p).g := by
  refine wanted_rel c1 fun t ht => hLook t ?_
  unfold Opr.uses
  unfold gUses at ht
  split at ht <;> simp_all
 have hlist : ∀ q, q < n → (listed.setIfInBounds (idx p) true).getD (idx q) true = sel1 sel p q ∧ (listed.setIfInBounds (idx p) true).getD (idx q) false = sel1 sel p q := by
  intro q hq
  by_cases hqp : q = p
  ·subst hqp
   rw [sel1_self]
   have h1 := (I.list q hq).1
   rw [hsp] at h1
   have hlt : idx q < listed.size := by
    rcases Nat.lt_or_ge (idx q) listed.size with h | h
    ·exact h
    ·simp [Array.getElem?_eq_none h] at h1
   constructor <;> simp [hlt]
  ·have hne : idx p ≠ idx q := fun he => hqp (H.plan.inj q p hq hp he.symm)
   rw [sel1_ne sel hqp, getD_set_ne true hne, getD_set_ne false hne]
   exact I.list q hq
 have hclosed : ∀ q, q < n → sel1 sel p q = true → ∀ j, (msk q).testBit j = true → (listed.setIfInBounds (idx p) true).getD j false = true := by
  intro q hq hs j hj
  refine getD_set_true ?_
  by_cases hqp : q = p
  ·subst hqp; exact hmask j hj
  ·rw [sel1_ne sel hqp] at hs; exact I.closed q hq hs j hj
 have hbelow : ∀ q, q < m → sel1 sel p q = true := fun q hq => by
  rw [sel1_ne sel (by omega)]; exact I.below q hq
 have still : isNew T aop p = false → σ (p + 1) = σ p → ∀ v', Rv M (vv p) v' → K (a.put o.dst v') w := by
  intro hnw hst v' hv'
  obtain ⟨t1, t2⟩ := H.fill hp hn I.size c4 I.tmps (.refl M) hv'
  rw [c3]
  have hcong : ∀ id, hsel σ (isNew T aop) (sel1 sel p) m n id = hsel σ (isNew T aop) sel m n id := by
   intro id
   refine hsel_congr n fun q _ _ h3 _ => sel1_ne sel fun he => ?_
   rw [he, hnw] at h3; simp at h3
  cases hl : (aop p).op.kind.loud with
  | false =>
   have he : hsel σ (isNew T aop) (sel1 sel p) m n = hsel σ (isNew T aop) sel m n := funext hcong
   refine hK m M _ w ⟨hlist, hclosed, I.mle, hbelow, fun q q1 q2 q3 => ?_, t1, t2, (put_defers _ _ _).trans I.defers, ?_, ?_, ?_⟩
   ·by_cases hqp : q = p
    ·rw [hqp]; exact hl
    ·rw [sel1_ne sel hqp] at q3; exact I.above q q1 q2 q3
   ·rw [he]; exact I.rel
   ·rw [he]; exact I.ext
   ·rw [he]; exact I.fresh
  | true =>
   have hall : ∀ q, q < p → sel q = true := fun q hq => by
    cases hs : sel q with
    | true => rfl
    | false => have := (hn.before q hq hs).2.1; rw [hl] at this; simp at this
   have he : hsel σ (isNew T aop) (sel1 sel p) (p + 1) n = hsel σ (isNew T aop) sel m n := by
    funext id
    rw [← H.shift (sel := sel) id p hmp (by omega) fun q q1 q2 => ⟨hall q q2, I.above q q1 (by omega) (hall q q2)⟩]
    have aux : ∀ k, p + 1 ≤ k → hsel σ (isNew T aop) (sel1 sel p) (p + 1) k id = hsel σ (isNew T aop) sel p k id := by
     intro k
     induction k with
     | zero => intro h; omega
     | succ k ih =>
      intro h
      by_cases hpk : p = k
      ·subst hpk
       rw [hsel_le σ (isNew T aop) (p + 1) (Nat.le_refl _)]
       simp only [hsel]
       rw [if_neg (fun h => by rw [hnw] at h; simp at h), hsel_le σ (isNew T aop) p (Nat.le_refl _), hst]
      ·simp only [hsel]
       rw [ih (by omega), sel1_ne sel (by omega : k ≠ p)]
       by_cases hc : sel k = true ∧ isNew T aop k = true ∧ (σ k).n = id
       ·rw [if_pos ⟨by omega, hc⟩, if_pos ⟨by omega, hc⟩]
       ·rw [if_neg (fun h => hc h.2), if_neg (fun h => hc h.2)]
    exact aux n (by omega)
   refine hK (p + 1) M _ w ⟨hlist, hclosed, by omega, fun q hq => ?_, fun q q1 q2 q3 => ?_, t1, t2, (put_defers _ _ _).trans I.defers, ?_, ?_, ?_⟩
   ·by_cases hqp : q = p
    ·rw [hqp]; exact sel1_self sel p
    ·rw [sel1_ne sel hqp]; exact hall q (by omega)
   ·rw [sel1_ne sel (by omega)] at q3
    exact (hn.behind q (by omega) q2 q3).2
   ·rw [he]; exact I.rel
   ·rw [he]; exact I.ext
   ·rw [he]; exact I.fresh
 unfold wpOp
 simp only [hoi]
 rcases (H.step p hp).st with ⟨hw, ⟨_call, hcall, hex⟩, hal⟩ | ⟨hw, hv, hst⟩
 ·rw [if_pos (by rw [hwant]; exact hw)]
  left
  cases hk : (aop p).op.kind with
  | pure =>
   unfold Am.execOp at hex
   rw [hk] at hex
   simp only at hex
   split at hex <;> simp at hex
   rename_i v0 hpv
   obtain ⟨rfl, hst⟩ := hex
   obtain ⟨v', h1, h2⟩ := pure_sound c2 hpv hlook w
   unfold Oper.wp
   rw [h1]
   exact still (by unfold isNew; rw [hk]) hst.symm v' h2
  | read =>
   unfold Am.execOp at hex
   rw [hk] at hex
   simp only at hex
   split at hex <;> simp at hex
   rename_i v0 hrv
   obtain ⟨rfl, hst⟩ := hex
   obtain ⟨τ, g1, g2⟩ := H.readAt hp hn hk hrv hal hmp I.above
   obtain ⟨v', h1, h2⟩ := read_sound c2 g2 hlook (I.rel.part g1)
   unfold Oper.wp
   rw [h1]
   exact still (by unfold isNew; rw [hk]) hst.symm v' h2
  | new =>
   have hnw : isNew T aop p = true := by unfold isNew; rw [hk]; exact hw
   rcases H.quiet hp (by rw [hk]; rfl) with ⟨h0, _⟩ | ⟨_, ob, hnew, hst⟩
   ·rw [hnw] at h0; simp at h0
   have hnone : hsel σ (isNew T aop) sel m n (σ p).n = none := by
    rw [hsel_none σ (isNew T aop) n fun q q1 q2 q3 q4 => ?_]
    ·exact H.wfAt m I.mle _ (H.grow p hmp (by omega)).n
    ·rcases Nat.lt_trichotomy q p with h | h | h
     ·have := H.newlt h (by omega) q4; omega
     ·subst h; rw [hsp] at q3; simp at q3
     ·have := H.newlt h (by omega) hnw; omega
   have hlo : (σ 0).n ≤ (σ p).n := (H.grow p (by omega) (by omega)).n
   have hhi : (σ p).n < (σ n).n := H.newlt hp (Nat.le_refl _) hnw
   obtain ⟨v', w', M', h1, h2, h3, h4⟩ := new_sound c2 hnew hlook I.rel hnone (I.fresh _ hlo hhi hnone)
   have he : hsel σ (isNew T aop) (sel1 sel p) m n = upd (hsel σ (isNew T aop) sel m n) (σ p).n ob := by
    funext id
    unfold upd
    split
    ·rename_i hid
     rw [hsel_at σ (isNew T aop) (q0 := p) n hp hmp (sel1_self sel p) hnw hid.symm fun q q1 q2 q3 => ?_, hst]
     ·simp only; rw [Tr.get_set, if_pos hid]
     ·have := H.newlt q1 (by omega) hnw; omega
    ·rename_i hid
     refine hsel_congr n fun q _ _ _ h4 => sel1_ne sel fun hqp => ?_
     rw [hqp] at h4; exact hid h4.symm
   unfold Oper.wp
   rw [h1]
   obtain ⟨t1, t2⟩ := H.fill hp hn I.size c4 I.tmps h4.le h2
   change K (a.put o.dst v') w'
   rw [c3]
   refine hK m M' _ w' ⟨hlist, hclosed, I.mle, hbelow, fun q q1 q2 q3 => ?_, t1, t2, (put_defers _ _ _).trans I.defers, ?_, ?_, ?_⟩
   ·by_cases hqp : q = p
    ·rw [hqp, hk]; rfl
    ·rw [sel1_ne sel hqp] at q3; exact I.above q q1 q2 q3
   ·rw [he]; exact h3
   ·rw [he]; exact I.ext.join (h4.weaken hlo (by omega)) hf0
   ·intro id i1 i2 i3 e
    rw [he] at i3
    unfold upd at i3
    split at i3
    ·simp at i3
    ·rename_i hid
     rw [h4.same id i3 (by omega) e]
     exact I.fresh id i1 i2 i3 e
  | _ =>
   have hl : (aop p).op.kind.loud = true := by rw [hk]; rfl
   have hnw : isNew T aop p = false := by unfold isNew; rw [hk]
   have hall : ∀ q, q < p → sel q = true := fun q hq => by
    cases hs : sel q with
    | true => rfl
    | false => have := (hn.before q hq hs).2.1; rw [hl] at this; simp at this
   have hτ : hsel σ (isNew T aop) sel p n = hsel σ (isNew T aop) sel m n := funext fun id =>
    H.shift (sel := sel) id p hmp (by omega) fun q q1 q2 => ⟨hall q q2, I.above q q1 (by omega) (hall q q2)⟩
   have hI := I.rel
   rw [← hτ] at hI
   have hlow : ∀ id, id < (σ (p + 1)).n → hsel σ (isNew T aop) sel p n id = (σ p).h.get id := fun id hid =>
    hsel_none σ (isNew T aop) n fun q q1 q2 q3 q4 => by
     by_cases hqp : q = p
     ·subst hqp; rw [hsp] at q3; simp at q3
     ·have := (H.grow q (by omega : p + 1 ≤ q) (by omega)).n
      omega
   have hdef : ∀ id, (σ p).h.get id ≠ none → id < (σ p).n := fun id hid => by
    rcases Nat.lt_or_ge id (σ p).n with h | h
    ·exact h
    ·exact absurd (H.wfAt p (by omega) id h) hid
   have hg := H.grow1 p hp (H.wfAt p (by omega))
   have hpart : Part (σ p).h.get (hsel σ (isNew T aop) sel p n) := fun id hid => hlow id (Nat.lt_of_lt_of_le (hdef id hid) hg.n)
   have hlo : (σ 0).n ≤ (σ p).n := (H.grow p (by omega) (by omega)).n
   have hhi : (σ (p + 1)).n ≤ (σ n).n := (H.grow n hp (Nat.le_refl _)).n
   have hfr : Fresh M (σ p).n (σ (p + 1)).n := fun id i1 i2 e => by
    refine I.fresh id (by omega) (by omega) ?_ e
    rw [← hτ, hlow id i2]
    exact H.wfAt p (by omega) id i1
   refine (op_sound hcall c2 hex (H.wfAt p (by omega))).2 M w a (hI.part hpart) hfr hlook K Q fun v' w' M' h2 h3 h4 => ?_
   obtain ⟨f1, f2⟩ := hI.frame hpart h3 h4 (fun id i1 i2 i3 => i1 (by rw [hlow id i3.2]; exact i2))
   have he : hsel σ (isNew T aop) (sel1 sel p) (p + 1) n = over (σ (p + 1)).h.get (hsel σ (isNew T aop) sel p n) := by
    funext id
    unfold over
    cases hob : (σ (p + 1)).h.get id with
    | some ob =>
     simp only
     rw [hsel_none σ (isNew T aop) n fun q q1 q2 q3 q4 => ?_, hob]
     have hid : id < (σ (p + 1)).n := by
      rcases Nat.lt_or_ge id (σ (p + 1)).n with h | h
      ·exact h
      ·rw [H.wfAt (p + 1) (by omega) id h] at hob; simp at hob
     have := (H.grow q q1 (by omega)).n
     omega
    | none =>
     simp only
     have hpn : (σ p).h.get id = none := by
      cases hq : (σ p).h.get id with
      | none => rfl
      | some x => exact absurd hob (hg.dom id (by simp [hq]))
     have aux : ∀ k, p + 1 ≤ k → hsel σ (isNew T aop) (sel1 sel p) (p + 1) k id = hsel σ (isNew T aop) sel p k id := by
      intro k
      induction k with
      | zero => intro h; omega
      | succ k ih =>
       intro h
       by_cases hpk : p = k
       ·subst hpk
        rw [hsel_le σ (isNew T aop) (p + 1) (Nat.le_refl _)]
        simp only [hsel]
        rw [if_neg (fun h => by rw [hnw] at h; simp at h), hsel_le σ (isNew T aop) p (Nat.le_refl _), hob, hpn]
       ·simp only [hsel]
        rw [ih (by omega), sel1_ne sel (by omega : k ≠ p)]
        by_cases hc : sel k = true ∧ isNew T aop k = true ∧ (σ k).n = id
        ·rw [if_pos ⟨by omega, hc⟩, if_pos ⟨by omega, hc⟩]
        ·rw [if_neg (fun h => hc h.2), if_neg (fun h => hc h.2)]
     exact aux n (by omega)
   obtain ⟨t1, t2⟩ := H.fill hp hn I.size c4 I.tmps h4.le h2
   rw [c3]
   refine hK (p + 1) M' _ w' ⟨hlist, hclosed, by omega, fun q hq => ?_, fun q q1 q2 q3 => ?_, t1, t2, (put_defers _ _ _).trans I.defers, ?_, ?_, ?_⟩
   ·by_cases hqp : q = p
    ·rw [hqp]; exact sel1_self sel p
    ·rw [sel1_ne sel hqp]; exact hall q (by omega)
   ·rw [sel1_ne sel (by omega)] at q3
    exact (hn.behind q (by omega) q2 q3).2
   ·rw [he]; exact f1
   ·rw [he]
    have hx := I.ext
    rw [← hτ] at hx
    exact hx.join (f2.weaken hlo hhi) hf0
   ·intro id i1 i2 i3 e
    rw [he] at i3
    unfold over at i3
    split at i3
    ·simp at i3
    ·rename_i hob
     have hnot : ¬ ((σ p).n ≤ id ∧ id < (σ (p + 1)).n) := fun hc => hg.full id hc.1 hc.2 hob
     rw [f2.same id i3 hnot e]
     exact I.fresh id i1 i2 (by rw [← hτ]; exact i3) e
 ·rw [if_neg (by rw [hwant, hw]; simp)]
  refine still ?_ hst undef (by rw [hv]; exact .undef)
  unfold isNew
  split
  ·exact hw
  ·rfl
theorem DInv.done (H : Trc P nt ops n idx aop qsf msk T σ vv) {M0 : Mp} {w0 : World} {a0 : Act} {listed : Array Bool} {sel : Nat → Bool} {m : Nat} {M : Mp}
  {a : Act} {w : World} (I : DInv P nt n idx aop msk T σ vv M0 w0 a0 listed sel m M a w) (hall : ∀ q, q < n → sel q = true) :
  TmRel M (T n) a nt ∧ Rel M (σ n).h.get w ∧ Ext M0 M (σ 0).h.get (σ n).h.get (σ 0).n (σ n).n w0 w := by
 have he : hsel σ (isNew T aop) sel m n = (σ n).h.get := by
  funext id
  rw [← H.shift (sel := sel) id n I.mle (Nat.le_refl _) fun q q1 q2 => ⟨hall q q2, I.above q q1 q2 (hall q q2)⟩]
  exact hsel_le σ (isNew T aop) n (Nat.le_refl _)
 have h1 := I.rel
 have h2 := I.ext
 rw [he] at h1 h2
 refine ⟨⟨I.size, fun t => ?_⟩, h1, h2⟩
 rw [H.tms t n (Nat.le_refl _)]
 rw [← tsel_congr (sel := sel) _ _ _ n fun q hq _ => hall q hq]
 exact I.tmps t
theorem DInv.walk (H : Trc P nt ops n idx aop qsf msk T σ vv) {M0 : Mp} {w0 : World} {a0 : Act} (hf0 : Fresh M0 (σ 0).n (σ n).n) {Q : Exit → Act → World → Prop}
  (hQ : ∀ M a w, TmRel M (T n) a nt → a.defers = a0.defers → Rel M (σ n).h.get w → Ext M0 M (σ 0).h.get (σ n).h.get (σ 0).n (σ n).n w0 w → Q .normal a w) :
  ∀ (fuel : Nat) (listed : Array Bool) (sel : Nat → Bool) (m : Nat) (M : Mp) (a : Act) (w : World), DInv P nt n idx aop msk T σ vv M0 w0 a0 listed sel m M a w → cnt sel n ≤ fuel → wpAny P .any ops Q fuel listed a w := by
 have fin : ∀ (listed : Array Bool) (sel : Nat → Bool) (m : Nat) (M : Mp) (a : Act) (w : World), DInv P nt n idx aop msk T σ vv M0 w0 a0 listed sel m M a w → (∀ q, q < n → sel q = true) → Q .normal a w := by
  intro listed sel m M a w I hall
  obtain ⟨h1, h2, h3⟩ := I.done H hall
  exact hQ M a w h1 I.defers h2 h3
 have pos : ∀ (listed : Array Bool) i, i ∈ Region.ready .any ops listed → ∃ p, p < n ∧ idx p = i := by
  intro listed i hi
  obtain ⟨_, o, ho, _⟩ := mem_ready.1 hi
  exact H.plan.sur i (Array.getElem?_eq_some_iff.1 ho).1
 intro fuel
 induction fuel with
 | zero =>
  intro listed sel m M a w I hc
  have hall : ∀ q, q < n → sel q = true := cnt_zero n (by omega)
  refine ⟨?_, fin listed sel m M a w I hall⟩
  cases hr : Region.ready .any ops listed with
  | nil => rfl
  | cons i rs =>
   obtain ⟨p, hp, rfl⟩ := pos listed i (by rw [hr]; simp)
   have := (mem_ready.1 (by rw [hr]; simp : idx p ∈ Region.ready .any ops listed)).1
   rw [(I.list p hp).1, hall p hp] at this; simp at this
 | succ fuel ih =>
  intro listed sel m M a w I hc
  refine ⟨fun hr => fin listed sel m M a w I ?_, fun i hi => ?_⟩
  ·intro p
   induction p using Nat.strongRecOn with
   | ind p ihp =>
    intro hp
    cases hs : sel p with
    | true => rfl
    | false =>
     have : idx p ∈ Region.ready .any ops listed := by
      obtain ⟨o, ho, _, hbe, _⟩ := H.plan.oper p hp
      refine mem_ready.2 ⟨by rw [(I.list p hp).1, hs], o, ho, fun e he hb => ?_⟩
      obtain ⟨q, q1, q2⟩ := hbe e (by simpa using he) (by rw [← binds_any]; exact hb)
      rw [← q2, (I.list q (by omega)).2]
      exact ihp q q1 (by omega)
     rw [hr] at this; simp at this
  ·obtain ⟨p, hp, rfl⟩ := pos listed i hi
   have hsp : sel p = false := by rw [← (I.list p hp).1]; exact (mem_ready.1 hi).1
   refine I.step H hf0 hp hi fun m' M' a' w' I' => ih _ _ m' M' a' w' I' ?_
   have := cnt_sel1 hsp n
   rw [if_pos hp] at this
   omega
end
theorem dreg_sound (hm : P.follows .mixedOrders = true) {nt : Nat} {ops : Array Oper} {perm : List Nat} {hs os : List (Opr × List Nat)}
  (hlen : perm.length = ops.size) (hall : (List.range ops.size).all perm.contains = true) (hos : cD P nt ops perm hs [] [] = some os) {tm tm' : Tm} {s s' : S}
  (hrun : RunD P os [] tm s tm' s') (hwf : WF s) (id : Nat) : Tells ((Code.region id ops true).wp P) nt tm s .normal tm' s' := by
 obtain ⟨l1, aop, qsf, msk, hplan, hops⟩ := plan_of hall hos
 obtain ⟨T, σ, vv, hT, hσ, hT', hσ', hst⟩ := runD_trace os [] tm s tm' s' hrun
 rw [l1] at hT' hσ'
 have H : Trc P nt ops perm.length (fun p => perm.getD p 0) aop qsf msk T σ vv := ⟨hplan, fun p hp => hst p _ _ (hops p hp), by rw [hσ]; exact hwf⟩
 have hg := H.grow perm.length (Nat.zero_le _) (Nat.le_refl _)
 rw [hσ, hσ'] at hg
 refine ⟨hg, fun M w a hR hfr ht Q hQ => wp_region_any hm ?_⟩
 refine DInv.walk H (M0 := M) (w0 := w) (a0 := a) (by rw [hσ, hσ']; exact hfr) (fun M' a' w' g1 g2 g3 g4 => ?_) ops.size _ (fun _ => false) 0 M a _ ?_ (by rw [cnt_none, hlen]; exact Nat.le_refl _)
 ·rw [hT'] at g1
  rw [hσ'] at g3
  rw [hσ, hσ'] at g4
  exact hQ a' w' M' g1 g2 g3 g4
 ·have he : hsel σ (isNew T aop) (fun _ => false) 0 perm.length = s.h.get := by
   funext i
   rw [hsel_none σ (isNew T aop) perm.length (by simp), hσ]
  refine ⟨fun q hq => ?_, by simp, Nat.zero_le _, by omega, by simp, ht.size, fun t => ?_, rfl, ?_, ?_, ?_⟩
  ·have hlt := hplan.lt q hq
   rw [Array.getD_eq_getD_getElem?, Array.getD_eq_getD_getElem?, Array.getElem?_replicate, if_pos hlt]
   exact ⟨rfl, rfl⟩
  ·rw [tsel_above (T0 := (T 0).at_) (aop := aop) (vv := vv) (p := 0) perm.length (Nat.zero_le _) (by simp)]
   simp only [tsel, hT]
   exact ht.at_ t
  ·rw [he]; exact hR.drew
  ·rw [he, hσ, hσ']
   exact (Ext.drew M s.h.get s.n s'.n w _ rfl rfl rfl)
  ·rw [hσ, hσ']
   intro i h1 h2 _ e
   exact hfr i h1 h2 e
end Go.Am
